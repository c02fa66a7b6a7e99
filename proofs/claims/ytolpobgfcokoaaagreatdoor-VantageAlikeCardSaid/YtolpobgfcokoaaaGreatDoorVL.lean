
/- VantageOwn, VantageNeeds, VantageFirst: the laws' contracts. VantageFree, VantageStays: the laws' contracts. -/
import Derived.Test.YtolpobgfcokoaaaGreatDoorVK
open Nat renaming reduceLT → rn1, reduceLeDiff → rn2, reduceEqDiff → rn3, reduceAdd → rn4, reduceMul → rn5, reduceSub → rn6, reduceBEq → rn7
open Int renaming reduceLT → ri1, reduceLE → ri2, reduceEq → ri3, reduceBEq → ri4, reduceNeg → ri5
namespace Go.Proofs.YtolpobgfcokoaaaGreatDoor
open Go.Eng
set_option linter.unusedSimpArgs false
set_option maxRecDepth 10000

theorem look_sn {n : Nt} {l : List (List Kp)} {now : Int} {name token ca : Bs} {need : Int} (h : lookOk (lookE n l now name token ca need) = true) : lookSn n l now name token ca need = ⟨name, now, lookS n l now name token ca need⟩ := by
  unfold lookSn; rw [h]; rfl
theorem look_sn0 {n : Nt} {l : List (List Kp)} {now : Int} {name token ca : Bs} {need : Int} (h : lookOk (lookE n l now name token ca need) = false) : lookSn n l now name token ca need = ⟨[], 0, []⟩ ∧ lookX n l now name token ca need = [] := by
  unfold lookSn lookX; rw [h]; exact ⟨rfl, rfl⟩
theorem lookOk_iff {e : Int} : lookOk e = true ↔ e = 0 ∨ e = 230 := by
  unfold lookOk
  rw [Bool.or_eq_true, beq_iff_eq, beq_iff_eq]
theorem lookOk_not {e : Int} : lookOk e = false ↔ ¬ e = 0 ∧ ¬ e = 230 := by
  rw [Bool.eq_false_iff, ne_eq, lookOk_iff]
  omega
set_option maxHeartbeats 4000000 in
theorem vneeds_ok (n : Nt) (l : List (List Kp)) (now : Int) (name token ca : Bs) (a b : Int) (hk : ∀ c ∈ n.C, -9223372036854775808 ≤ c.B ∧ c.B ≤ 9223372036854775807) (hw : ∀ c ∈ n.C, c.W.length ≤ 9223372036854775807) :
    Meets Tryz.prog 6 [n.arg, (false, [vD (csD l)]), (false, [vI now]), (false, [vS name]), (false, [vS token]), (false, [vS ca]), (false, [vI a]), (false, [vI b])] (rOne (vB true)) := by
  refine meets Tryz.func6 rfl rfl Tryz.ntmps6 Tryz.results6 rfl ?_
  simp -dsimp -implicitDefEqProofs only [go_sem, ↓reduceIte, reduceCtorEq, rn1, rn2, rn3, rn4, rn5, rn6, rn7, ri1, ri2, ri3, ri4, ri5]
  refine callP live23_ok ?_
  simp -dsimp -implicitDefEqProofs only [go_sem, ↓reduceIte, reduceCtorEq, rn1, rn2, rn3, rn4, rn5, rn6, rn7, ri1, ri2, ri3, ri4, ri5]
  refine callP (few23_ok n l name token ca) ?_
  cases hf : few23 n l name token ca with
  | false => simp -dsimp -implicitDefEqProofs only [hf, go_sem, ↓reduceIte, reduceCtorEq, rn1, rn2, rn3, rn4, rn5, rn6, rn7, ri1, ri2, ri3, ri4, ri5]
  | true =>
    obtain ⟨hfn, hl, hc, hn, _, _⟩ := few23_iff hf
    have hz := sz_of hfn hk hw
    simp -dsimp -implicitDefEqProofs only [hf, go_sem, ↓reduceIte, reduceCtorEq, rn1, rn2, rn3, rn4, rn5, rn6, rn7, ri1, ri2, ri3, ri4, ri5]
    intro h1 h2 h3
    obtain ⟨e1, e2, e3⟩ := needs_law (n := n) (l := l) (now := now) (name := name) (token := token) (ca := ca) (a := a) (b := b) (by omega) (by omega) (by omega)
    have hsl := look_len n (l := l) (now := now) (name := name) (token := token) (ca := ca) (need := a)
    have hxc := look_cz n (l := l) (now := now) (name := name) (token := token) (ca := ca) (need := a)
    have fa := look23_ok n hz l (by omega) hc now name (by omega) token ca a
    have fb := look23_ok n hz l (by omega) hc now name (by omega) token ca b
    rcases e3 with ⟨k1, k2⟩ | ⟨k1, k2, k3⟩
    · obtain ⟨s1, x1⟩ := look_sn0 k1
      obtain ⟨s2, x2⟩ := look_sn0 (need := b) (by rw [k2]; exact k1)
      rw [s1, x1] at fa
      rw [s2, x2, k2] at fb
      obtain ⟨n0, n2⟩ := lookOk_not.1 k1
      refine callP fa ?_
      simp -dsimp -implicitDefEqProofs only [go_sem, ↓reduceIte, reduceCtorEq, rn1, rn2, rn3, rn4, rn5, rn6, rn7, ri1, ri2, ri3, ri4, ri5]
      refine callP fb ?_
      simp -dsimp -implicitDefEqProofs only [go_sem, ↓reduceIte, reduceCtorEq, rn1, rn2, rn3, rn4, rn5, rn6, rn7, ri1, ri2, ri3, ri4, ri5]
      refine callP (rsn_ok ⟨[], 0, []⟩ (by simp)) ?_
      simp -dsimp -implicitDefEqProofs only [go_sem, ↓reduceIte, reduceCtorEq, rn1, rn2, rn3, rn4, rn5, rn6, rn7, ri1, ri2, ri3, ri4, ri5]
      refine callP (rcs_ok [] (by simp) (by simp)) ?_
      simp -dsimp -implicitDefEqProofs only [n0, n2, go_sem, ↓reduceIte, reduceCtorEq, rn1, rn2, rn3, rn4, rn5, rn6, rn7, ri1, ri2, ri3, ri4, ri5]
    · have kb : lookOk (lookE n l now name token ca b) = true := by rw [k3]; split <;> rfl
      have s1 := look_sn k1
      have s2 := look_sn kb
      rw [← e1] at s2
      rw [s1] at fa hsl
      rw [s2, ← e2, k3] at fb
      rw [k2] at fa
      have hv := votes23_ok ⟨name, now, lookS n l now name token ca a⟩ (by have := hsl.1; simp only at this ⊢; omega)
      have hsl1 := hsl.1
      have hsl2 := hsl.2
      simp only at hsl1
      generalize lookS n l now name token ca a = V at *
      by_cases ga : votesN V < a
      · have gb : votesN V < b := by omega
        rw [if_pos ga] at fa
        rw [if_pos gb] at fb
        refine callP fa ?_
        simp -dsimp -implicitDefEqProofs only [go_sem, ↓reduceIte, reduceCtorEq, rn1, rn2, rn3, rn4, rn5, rn6, rn7, ri1, ri2, ri3, ri4, ri5]
        refine callP fb ?_
        simp -dsimp -implicitDefEqProofs only [go_sem, ↓reduceIte, reduceCtorEq, rn1, rn2, rn3, rn4, rn5, rn6, rn7, ri1, ri2, ri3, ri4, ri5]
        refine callP (rsn_ok ⟨name, now, V⟩ (by simp only; omega)) ?_
        simp -dsimp -implicitDefEqProofs only [go_sem, ↓reduceIte, reduceCtorEq, rn1, rn2, rn3, rn4, rn5, rn6, rn7, ri1, ri2, ri3, ri4, ri5]
        refine callP (rcs_ok (lookX n l now name token ca a) (by omega) hxc) ?_
        simp -dsimp -implicitDefEqProofs only [go_sem, ↓reduceIte, reduceCtorEq, rn1, rn2, rn3, rn4, rn5, rn6, rn7, ri1, ri2, ri3, ri4, ri5]
      · rw [if_neg ga] at fa
        by_cases gb : votesN V < b
        · have gb' : ¬ b ≤ votesN V := by omega
          rw [if_pos gb] at fb
          refine callP fa ?_
          simp -dsimp -implicitDefEqProofs only [go_sem, ↓reduceIte, reduceCtorEq, rn1, rn2, rn3, rn4, rn5, rn6, rn7, ri1, ri2, ri3, ri4, ri5]
          refine callP fb ?_
          simp -dsimp -implicitDefEqProofs only [go_sem, ↓reduceIte, reduceCtorEq, rn1, rn2, rn3, rn4, rn5, rn6, rn7, ri1, ri2, ri3, ri4, ri5]
          refine callP (rsn_ok ⟨name, now, V⟩ (by simp only; omega)) ?_
          simp -dsimp -implicitDefEqProofs only [go_sem, ↓reduceIte, reduceCtorEq, rn1, rn2, rn3, rn4, rn5, rn6, rn7, ri1, ri2, ri3, ri4, ri5]
          refine callP (rcs_ok (lookX n l now name token ca a) (by omega) hxc) ?_
          simp -dsimp -implicitDefEqProofs only [go_sem, ↓reduceIte, reduceCtorEq, rn1, rn2, rn3, rn4, rn5, rn6, rn7, ri1, ri2, ri3, ri4, ri5]
          refine callP hv ?_
          simp -dsimp -implicitDefEqProofs only [gb', go_sem, ↓reduceIte, reduceCtorEq, rn1, rn2, rn3, rn4, rn5, rn6, rn7, ri1, ri2, ri3, ri4, ri5]
        · have gb' : b ≤ votesN V := by omega
          rw [if_neg gb] at fb
          refine callP fa ?_
          simp -dsimp -implicitDefEqProofs only [go_sem, ↓reduceIte, reduceCtorEq, rn1, rn2, rn3, rn4, rn5, rn6, rn7, ri1, ri2, ri3, ri4, ri5]
          refine callP fb ?_
          simp -dsimp -implicitDefEqProofs only [go_sem, ↓reduceIte, reduceCtorEq, rn1, rn2, rn3, rn4, rn5, rn6, rn7, ri1, ri2, ri3, ri4, ri5]
          refine callP (rsn_ok ⟨name, now, V⟩ (by simp only; omega)) ?_
          simp -dsimp -implicitDefEqProofs only [go_sem, ↓reduceIte, reduceCtorEq, rn1, rn2, rn3, rn4, rn5, rn6, rn7, ri1, ri2, ri3, ri4, ri5]
          refine callP (rcs_ok (lookX n l now name token ca a) (by omega) hxc) ?_
          simp -dsimp -implicitDefEqProofs only [go_sem, ↓reduceIte, reduceCtorEq, rn1, rn2, rn3, rn4, rn5, rn6, rn7, ri1, ri2, ri3, ri4, ri5]
          refine callP hv ?_
          simp -dsimp -implicitDefEqProofs only [gb', go_sem, ↓reduceIte, reduceCtorEq, rn1, rn2, rn3, rn4, rn5, rn6, rn7, ri1, ri2, ri3, ri4, ri5]
structure FdInv (m : List Rec) (v : Bs) where
  i : Nat
  le : i ≤ m.length
/-- A vote of one's own. -/
theorem own_law {n : Nt} {l : List (List Kp)} {now : Int} {name token ca : Bs} (h : lookOk (lookE n l now name token ca 1) = true) {k : Nat} {L : List Kp} (hk : l[k]? = some L) :
    (lookS n l now name token ca 1)[k]? = some (voteV n (k : Int) L now name token ca).Y ∧ (lookX n l now name token ca 1)[k]? = some (voteV n (k : Int) L now name token ca).C ∧ (voteV n (k : Int) L now name token ca).E = 0 := by
  obtain ⟨_, _, _, h4, _⟩ := look_good h
  have h5 := lookVs_at (n := n) (now := now) (name := name) (token := token) (ca := ca) hk
  unfold lookS lookX
  rw [h]
  refine ⟨?_, ?_, look_vote h4 hk⟩
  · rw [if_pos rfl, List.getElem?_map, h5]; rfl
  · rw [if_pos rfl, List.getElem?_map, h5]; rfl
def fdB (f : Int) (m : List Rec) (v : Bs) : Bool := decide (f = 0) && hasB m v
theorem fd_step {f : Int} {m : List Rec} {v : Bs} {i : Nat} {x : Rec} (hx : m[i]? = some x) : fdB f (m.take (i + 1)) v = (fdB f (m.take i) v || (decide (f = 0) && x.V == v)) := by
  unfold fdB hasB
  rw [List.take_add_one, hx, List.any_append]
  cases decide (f = 0) <;> simp
theorem has_step {l : List Rec} {i : Nat} {x : Rec} (v : Bs) (hx : l[i]? = some x) : hasB (l.take (i + 1)) v = (hasB (l.take i) v || x.V == v) := by
  unfold hasB
  rw [List.take_add_one, hx, List.any_append]
  simp
set_option maxHeartbeats 4000000 in
theorem vown_ok (n : Nt) (l : List (List Kp)) (now : Int) (name token ca : Bs) (k : Int) (hk : ∀ c ∈ n.C, -9223372036854775808 ≤ c.B ∧ c.B ≤ 9223372036854775807) (hw : ∀ c ∈ n.C, c.W.length ≤ 9223372036854775807) :
    Meets Tryz.prog 5 [n.arg, (false, [vD (csD l)]), (false, [vI now]), (false, [vS name]), (false, [vS token]), (false, [vS ca]), (false, [vI k])] (rOne (vB true)) := by
  refine meets Tryz.func5 rfl rfl Tryz.ntmps5 Tryz.results5 rfl ?_
  simp -dsimp -implicitDefEqProofs only [go_sem, ↓reduceIte, reduceCtorEq, rn1, rn2, rn3, rn4, rn5, rn6, rn7, ri1, ri2, ri3, ri4, ri5]
  refine callP live23_ok ?_
  simp -dsimp -implicitDefEqProofs only [go_sem, ↓reduceIte, reduceCtorEq, rn1, rn2, rn3, rn4, rn5, rn6, rn7, ri1, ri2, ri3, ri4, ri5]
  refine callP (few23_ok n l name token ca) ?_
  cases hf : few23 n l name token ca with
  | false => simp -dsimp -implicitDefEqProofs only [hf, go_sem, ↓reduceIte, reduceCtorEq, rn1, rn2, rn3, rn4, rn5, rn6, rn7, ri1, ri2, ri3, ri4, ri5]
  | true =>
    obtain ⟨hfn, hl, hc, hn, _, _⟩ := few23_iff hf
    have hz := sz_of hfn hk hw
    have fa := look23_ok n hz l (by omega) hc now name (by omega) token ca 1
    simp -dsimp -implicitDefEqProofs only [hf, go_sem, ↓reduceIte, reduceCtorEq, rn1, rn2, rn3, rn4, rn5, rn6, rn7, ri1, ri2, ri3, ri4, ri5]
    intro k1 k2
    cases hok : lookOk (lookE n l now name token ca 1) with
    | false =>
      obtain ⟨n0, n2⟩ := lookOk_not.1 hok
      refine callP fa ?_
      simp -dsimp -implicitDefEqProofs only [n0, n2, go_sem, ↓reduceIte, reduceCtorEq, rn1, rn2, rn3, rn4, rn5, rn6, rn7, ri1, ri2, ri3, ri4, ri5]
    | true =>
      obtain ⟨c1, c2, c3, c4⟩ := look_chk hok
      rw [look_sn hok] at fa
      obtain ⟨kn, rfl⟩ : ∃ kn : Nat, k = (kn : Int) := ⟨k.toNat, by omega⟩
      have hkl : kn < l.length := by omega
      obtain ⟨L, hL⟩ : ∃ L, l[kn]? = some L := ⟨_, List.getElem?_eq_getElem hkl⟩
      obtain ⟨o1, o2, o3⟩ := own_law hok hL
      obtain ⟨p1, p2⟩ := vote_cases o3
      have hcL := hc L (List.mem_of_getElem? hL)
      have hfl := findL_len n (kn : Int) hcL now (atN name) 1
      have hfz := fc14_cz n (kn : Int) L now (atN name) 1
      have hke := lookOk_iff.1 hok
      have hlen1 : ((lookS n l now name token ca 1).length : Int) = l.length := by omega
      have hlen2 : ((lookX n l now name token ca 1).length : Int) = l.length := by omega
      refine callP fa ?_
      rcases hke with hke | hke
      all_goals
        simp -dsimp -implicitDefEqProofs only [hke, hlen1, hlen2, hL, forall_eq', go_sem, ↓reduceIte, reduceCtorEq, rn1, rn2, rn3, rn4, rn5, rn6, rn7, ri1, ri2, ri3, ri4, ri5]
        refine ⟨by omega, hkl, callP (at23_ok name (by omega)) ?_⟩
        simp -dsimp -implicitDefEqProofs only [go_sem, ↓reduceIte, reduceCtorEq, rn1, rn2, rn3, rn4, rn5, rn6, rn7, ri1, ri2, ri3, ri4, ri5]
        refine callP (find14_ok n hz (kn : Int) L hcL now (atN name) 1) ?_
        simp -dsimp -implicitDefEqProofs only [go_sem, ↓reduceIte, reduceCtorEq, rn1, rn2, rn3, rn4, rn5, rn6, rn7, ri1, ri2, ri3, ri4, ri5]
        refine ⟨drawn (by kernel_rfl), ?_⟩
        have hCC := caa23_ok n hz (kn : Int) (findC n (kn : Int) L now (atN name) 1) hfz now name ca
        have hvz := vote_cz (n := n) (seen := (kn : Int)) (L := L) (now := now) (name := name) (token := token) (ca := ca)
        have hkS : kn < (lookS n l now name token ca 1).length := by omega
        have hkX : kn < (lookX n l now name token ca 1).length := by omega
        generalize voteV n (kn : Int) L now name token ca = W at *
        generalize lookS n l now name token ca 1 = VS at *
        generalize lookX n l now name token ca 1 = X at *
        generalize findL n (kn : Int) L now (atN name) 1 = m at *
        generalize findE n (kn : Int) L now (atN name) 1 = f at *
        generalize findC n (kn : Int) L now (atN name) 1 = C at *
        refine vfor sitOk (ι := FdInv m token) (fun w => ⟨165, [(23, aI w.i), (22, aB (fdB f (m.take w.i) token)), (21, aI f), (19, aD (recsD m)), (20, aP 568 0), (17, aD (csD X)), (16, aP 272 0), (15, aB true), (7, aP 0 0), (2, aI now), (3, aS name), (4, aS token), (5, aS ca), (6, aI (kn : Int))],
          [(568, some (.var [cD (kpsD C)] true)), (272, some (.var [cS name, cI now, cD (bsD VS)] true)), (0, some (.var [cD (svsD n.V), cI n.N, cD (bnsD n.B), cD (cksD n.C)] true))], 700⟩) (fun w => m.length - w.i) ⟨0, by omega⟩ ?_ ?_
        · simp -dsimp -implicitDefEqProofs only [go_sem, ↓reduceIte, reduceCtorEq, rn1, rn2, rn3, rn4, rn5, rn6, rn7, ri1, ri2, ri3, ri4, ri5]
          simp [fdB, hasB]
        intro ⟨i, hi⟩
        simp -dsimp -implicitDefEqProofs only [go_sem, ↓reduceIte, reduceCtorEq, rn1, rn2, rn3, rn4, rn5, rn6, rn7, ri1, ri2, ri3, ri4, ri5]
        refine ⟨fun hlt => ?_, fun hge => ?_⟩
        · have hil : i < m.length := by omega
          obtain ⟨x, hx⟩ : ∃ x, m[i]? = some x := ⟨_, List.getElem?_eq_getElem hil⟩
          have hw := wrapS hil (by omega)
          have hst := fd_step (f := f) (v := token) hx
          cases hb : fdB f (m.take i) token with
          | true =>
            rw [hb, Bool.true_or] at hst
            simp -dsimp -implicitDefEqProofs only [hb, go_sem, ↓reduceIte, reduceCtorEq, rn1, rn2, rn3, rn4, rn5, rn6, rn7, ri1, ri2, ri3, ri4, ri5]
            refine again ⟨i + 1, by omega⟩ (by simp; omega) ?_
            simp -dsimp -implicitDefEqProofs only [hw, hst, go_sem, ↓reduceIte, reduceCtorEq, rn1, rn2, rn3, rn4, rn5, rn6, rn7, ri1, ri2, ri3, ri4, ri5]
          | false =>
            rw [hb, Bool.false_or] at hst
            by_cases hf0 : f = 0
            · rw [decide_eq_true hf0, Bool.true_and] at hst
              subst hf0
              simp -dsimp -implicitDefEqProofs only [hb, hx, forall_eq', go_sem, ↓reduceIte, reduceCtorEq, rn1, rn2, rn3, rn4, rn5, rn6, rn7, ri1, ri2, ri3, ri4, ri5]
              refine ⟨by omega, hil, again ⟨i + 1, by omega⟩ (by simp; omega) ?_⟩
              simp -dsimp -implicitDefEqProofs only [hw, hst, go_sem, ↓reduceIte, reduceCtorEq, rn1, rn2, rn3, rn4, rn5, rn6, rn7, ri1, ri2, ri3, ri4, ri5]
            · rw [decide_eq_false hf0, Bool.false_and] at hst
              simp -dsimp -implicitDefEqProofs only [hb, hf0, go_sem, ↓reduceIte, reduceCtorEq, rn1, rn2, rn3, rn4, rn5, rn6, rn7, ri1, ri2, ri3, ri4, ri5]
              refine again ⟨i + 1, by omega⟩ (by simp; omega) ?_
              simp -dsimp -implicitDefEqProofs only [hw, hst, go_sem, ↓reduceIte, reduceCtorEq, rn1, rn2, rn3, rn4, rn5, rn6, rn7, ri1, ri2, ri3, ri4, ri5]
        · have hil : i = m.length := by omega
          subst hil
          rw [List.take_length]
          rcases p2 with ⟨f0, hm, hY, hCe, _⟩ | ⟨hno, hY, hCe⟩
          · have hfd : fdB f m token = true := by unfold fdB; rw [f0, hm]; rfl
            rw [← hY, ← hCe] at hCC
            simp -dsimp -implicitDefEqProofs only [hfd, go_sem, ↓reduceIte, reduceCtorEq, rn1, rn2, rn3, rn4, rn5, rn6, rn7, ri1, ri2, ri3, ri4, ri5]
            refine callP hCC ?_
            simp -dsimp -implicitDefEqProofs only [o2, forall_eq', go_sem, ↓reduceIte, reduceCtorEq, rn1, rn2, rn3, rn4, rn5, rn6, rn7, ri1, ri2, ri3, ri4, ri5]
            refine ⟨by omega, hkX, callP (rsame14_ok W.C W.C (by have := hvz.l; omega) (fun y hy => by have := hvz.r y hy; omega)) ?_⟩
            simp -dsimp -implicitDefEqProofs only [decide_true, o1, forall_eq', go_sem, ↓reduceIte, reduceCtorEq, rn1, rn2, rn3, rn4, rn5, rn6, rn7, ri1, ri2, ri3, ri4, ri5]
            exact ⟨drawn (by kernel_rfl), by omega, hkS⟩
          · have hfd : fdB f m token = false := by
              unfold fdB
              cases hb : hasB m token with
              | false => exact Bool.and_false _
              | true => rw [decide_eq_false fun e => hno ⟨e, hb⟩]; rfl
            rw [hCe] at o2
            rw [hY] at o1
            simp -dsimp -implicitDefEqProofs only [hfd, o2, forall_eq', go_sem, ↓reduceIte, reduceCtorEq, rn1, rn2, rn3, rn4, rn5, rn6, rn7, ri1, ri2, ri3, ri4, ri5]
            refine ⟨by omega, hkX, callP (rsame14_ok C C (by have := hfz.l; omega) (fun y hy => by have := hfz.r y hy; omega)) ?_⟩
            simp -dsimp -implicitDefEqProofs only [decide_true, o1, forall_eq', go_sem, ↓reduceIte, reduceCtorEq, rn1, rn2, rn3, rn4, rn5, rn6, rn7, ri1, ri2, ri3, ri4, ri5]
            exact ⟨drawn (by kernel_rfl), by omega, hkS⟩
set_option maxHeartbeats 4000000 in
theorem vfirst_ok (n : Nt) (seen now : Int) (name ca : Bs) (hk : ∀ c ∈ n.C, -9223372036854775808 ≤ c.B ∧ c.B ≤ 9223372036854775807) (hw : ∀ c ∈ n.C, c.W.length ≤ 9223372036854775807) :
    Meets Tryz.prog 7 [n.arg, (false, [vI seen]), (false, [vI now]), (false, [vS name]), (false, [vS ca])] (rOne (vB true)) := by
  refine meets Tryz.func7 rfl rfl Tryz.ntmps7 Tryz.results7 rfl ?_
  simp -dsimp -implicitDefEqProofs only [go_sem, ↓reduceIte, reduceCtorEq, rn1, rn2, rn3, rn4, rn5, rn6, rn7, ri1, ri2, ri3, ri4, ri5]
  refine callP live23_ok ?_
  simp -dsimp -implicitDefEqProofs only [go_sem, ↓reduceIte, reduceCtorEq, rn1, rn2, rn3, rn4, rn5, rn6, rn7, ri1, ri2, ri3, ri4, ri5]
  refine callP (few23_ok n [] name [] ca) ?_
  cases hf : few23 n [] name [] ca with
  | false => simp -dsimp -implicitDefEqProofs only [hf, go_sem, ↓reduceIte, reduceCtorEq, rn1, rn2, rn3, rn4, rn5, rn6, rn7, ri1, ri2, ri3, ri4, ri5]
  | true =>
    obtain ⟨hfn, _, _, hn, _, _⟩ := few23_iff hf
    have hz := sz_of hfn hk hw
    have hll := findL_len n seen nil_cz now name 2
    have ff := find14_ok n hz seen [] nil_cz now name 2
    have fc := caa23_ok n hz seen [] nil_cz now name ca
    simp -dsimp -implicitDefEqProofs only [hf, go_sem, ↓reduceIte, reduceCtorEq, rn1, rn2, rn3, rn4, rn5, rn6, rn7, ri1, ri2, ri3, ri4, ri5]
    by_cases h0 : findE n seen [] now name 2 = 0
    · rw [caaV_yes h0] at fc
      rw [h0] at ff
      refine callP ff ?_
      simp -dsimp -implicitDefEqProofs only [go_sem, ↓reduceIte, reduceCtorEq, rn1, rn2, rn3, rn4, rn5, rn6, rn7, ri1, ri2, ri3, ri4, ri5]
      refine callP fc ?_
      simp -dsimp -implicitDefEqProofs only [go_sem, ↓reduceIte, reduceCtorEq, rn1, rn2, rn3, rn4, rn5, rn6, rn7, ri1, ri2, ri3, ri4, ri5]
      generalize findL n seen [] now name 2 = l at *
      refine vfor sitOk (ι := FdInv l ca) (fun w => ⟨128, [(19, aI w.i), (18, aB (hasB (l.take w.i) ca)), (12, aD (recsD l)), (11, aB true), (15, aB (hasB l ca)), (17, aI 0), (4, aS ca)], [], 400⟩) (fun w => l.length - w.i) ⟨0, by omega⟩ ?_ ?_
      · simp -dsimp -implicitDefEqProofs only [go_sem, ↓reduceIte, reduceCtorEq, rn1, rn2, rn3, rn4, rn5, rn6, rn7, ri1, ri2, ri3, ri4, ri5]
        rfl
      intro ⟨i, hi⟩
      simp -dsimp -implicitDefEqProofs only [go_sem, ↓reduceIte, reduceCtorEq, rn1, rn2, rn3, rn4, rn5, rn6, rn7, ri1, ri2, ri3, ri4, ri5]
      refine ⟨fun hlt => ?_, fun hge => ?_⟩
      · have hil : i < l.length := by omega
        obtain ⟨x, hx⟩ : ∃ x, l[i]? = some x := ⟨_, List.getElem?_eq_getElem hil⟩
        have hw := wrapS hil (by omega)
        have hst := has_step ca hx
        cases hb : hasB (l.take i) ca with
        | true =>
          rw [hb, Bool.true_or] at hst
          simp -dsimp -implicitDefEqProofs only [hb, go_sem, ↓reduceIte, reduceCtorEq, rn1, rn2, rn3, rn4, rn5, rn6, rn7, ri1, ri2, ri3, ri4, ri5]
          refine again ⟨i + 1, by omega⟩ (by simp; omega) ?_
          simp -dsimp -implicitDefEqProofs only [hw, hst, go_sem, ↓reduceIte, reduceCtorEq, rn1, rn2, rn3, rn4, rn5, rn6, rn7, ri1, ri2, ri3, ri4, ri5]
        | false =>
          rw [hb, Bool.false_or] at hst
          simp -dsimp -implicitDefEqProofs only [hb, hx, forall_eq', go_sem, ↓reduceIte, reduceCtorEq, rn1, rn2, rn3, rn4, rn5, rn6, rn7, ri1, ri2, ri3, ri4, ri5]
          refine ⟨by omega, hil, again ⟨i + 1, by omega⟩ (by simp; omega) ?_⟩
          simp -dsimp -implicitDefEqProofs only [hw, hst, go_sem, ↓reduceIte, reduceCtorEq, rn1, rn2, rn3, rn4, rn5, rn6, rn7, ri1, ri2, ri3, ri4, ri5]
      · have hil : i = l.length := by omega
        subst hil
        rw [List.take_length]
    · by_cases h1 : findE n seen [] now name 2 = 131
      · rw [h1] at ff
        refine callP ff ?_
        simp -dsimp -implicitDefEqProofs only [go_sem, ↓reduceIte, reduceCtorEq, rn1, rn2, rn3, rn4, rn5, rn6, rn7, ri1, ri2, ri3, ri4, ri5]
        refine callP fc ?_
        simp -dsimp -implicitDefEqProofs only [go_sem, ↓reduceIte, reduceCtorEq, rn1, rn2, rn3, rn4, rn5, rn6, rn7, ri1, ri2, ri3, ri4, ri5]
        refine callP (up_ok name) ?_
        by_cases hu : upB name = []
        · rw [caaV_top h1 hu]
          simp -dsimp -implicitDefEqProofs only [hu, go_sem, ↓reduceIte, reduceCtorEq, rn1, rn2, rn3, rn4, rn5, rn6, rn7, ri1, ri2, ri3, ri4, ri5]
        · have hf2 := caa_first (n := n) (seen := seen) (now := now) (ca := ca) h1 hu
          simp -dsimp -implicitDefEqProofs only [hu, go_sem, ↓reduceIte, reduceCtorEq, rn1, rn2, rn3, rn4, rn5, rn6, rn7, ri1, ri2, ri3, ri4, ri5]
          refine callP (caa23_ok n hz seen [] nil_cz now (upB name) ca) ?_
          simp -dsimp -implicitDefEqProofs only [hf2.1, hf2.2, go_sem, ↓reduceIte, reduceCtorEq, rn1, rn2, rn3, rn4, rn5, rn6, rn7, ri1, ri2, ri3, ri4, ri5]
      · rw [caaV_bad h0 h1] at fc
        refine callP ff ?_
        simp -dsimp -implicitDefEqProofs only [h0, h1, go_sem, ↓reduceIte, reduceCtorEq, rn1, rn2, rn3, rn4, rn5, rn6, rn7, ri1, ri2, ri3, ri4, ri5]
        refine callP fc ?_
        simp -dsimp -implicitDefEqProofs only [h0, h1, go_sem, ↓reduceIte, reduceCtorEq, rn1, rn2, rn3, rn4, rn5, rn6, rn7, ri1, ri2, ri3, ri4, ri5]
end Go.Proofs.YtolpobgfcokoaaaGreatDoor
namespace Go.Proofs.YtolpobgfcokoaaaGreatDoor
open Go.Eng
set_option linter.unusedSimpArgs false
set_option maxRecDepth 10000

def noC (z : Zn) : Prop := ∀ r ∈ z.R, r.K ≠ 2
def noS (s : Sv) : Prop := ∀ z ∈ s.Z, noC z
structure F1Inv (n : Nt) where
  i : Nat
  le : i ≤ n.V.length
  ok : ∀ j s, j < i → n.V[j]? = some s → noS s
structure F2Inv (s : Sv) where
  i : Nat
  le : i ≤ s.Z.length
  ok : ∀ j z, j < i → s.Z[j]? = some z → noC z
structure F3Inv (z : Zn) where
  i : Nat
  le : i ≤ z.R.length
  ok : ∀ j r, j < i → z.R[j]? = some r → r.K ≠ 2
theorem go_on {α : Type} {p : α → Prop} {l : List α} {i : Nat} {x : α} (hx : l[i]? = some x) (h : p x) (hok : ∀ j y, j < i → l[j]? = some y → p y) : ∀ j y, j < i + 1 → l[j]? = some y → p y := fun j y hj hy => by
  by_cases hji : j = i
  · subst hji; rw [hx] at hy; cases hy; exact h
  · exact hok j y (by omega) hy
theorem all_of {α : Type} {p : α → Prop} {l : List α} (hok : ∀ j y, j < l.length → l[j]? = some y → p y) : ∀ y ∈ l, p y := fun y hy => by
  obtain ⟨j, hj⟩ := List.mem_iff_getElem?.1 hy
  exact hok j y (List.getElem?_eq_some_iff.1 hj).1 hj
set_option maxHeartbeats 4000000 in
theorem vfree_ok (n : Nt) (seen now : Int) (name ca : Bs) (hk : ∀ c ∈ n.C, -9223372036854775808 ≤ c.B ∧ c.B ≤ 9223372036854775807) (hw : ∀ c ∈ n.C, c.W.length ≤ 9223372036854775807) :
    Meets Tryz.prog 8 [n.arg, (false, [vI seen]), (false, [vI now]), (false, [vS name]), (false, [vS ca])] (rOne (vB true)) := by
  refine meets Tryz.func8 rfl rfl Tryz.ntmps8 Tryz.results8 rfl ?_
  simp -dsimp -implicitDefEqProofs only [go_sem, ↓reduceIte, reduceCtorEq, rn1, rn2, rn3, rn4, rn5, rn6, rn7, ri1, ri2, ri3, ri4, ri5]
  refine callP live23_ok ?_
  simp -dsimp -implicitDefEqProofs only [go_sem, ↓reduceIte, reduceCtorEq, rn1, rn2, rn3, rn4, rn5, rn6, rn7, ri1, ri2, ri3, ri4, ri5]
  refine callP (few23_ok n [] name [] ca) ?_
  cases hf : few23 n [] name [] ca with
  | false => simp -dsimp -implicitDefEqProofs only [hf, go_sem, ↓reduceIte, reduceCtorEq, rn1, rn2, rn3, rn4, rn5, rn6, rn7, ri1, ri2, ri3, ri4, ri5]
  | true =>
    obtain ⟨hfn, _, _, hn, _, _⟩ := few23_iff hf
    have hz := sz_of hfn hk hw
    obtain ⟨z1, _, _, z4, z5⟩ := few_sz hfn
    simp -dsimp -implicitDefEqProofs only [hf, go_sem, ↓reduceIte, reduceCtorEq, rn1, rn2, rn3, rn4, rn5, rn6, rn7, ri1, ri2, ri3, ri4, ri5]
    refine vfor sitOk (ι := F1Inv n) (fun v => ⟨94, [(12, aI v.i), (11, aB true), (5, aP 0 0), (1, aI seen), (2, aI now), (3, aS name), (4, aS ca)], [(0, some (.var [cD (svsD n.V), cI n.N, cD (bnsD n.B), cD (cksD n.C)] true))], 200⟩) (fun v => n.V.length - v.i) ⟨0, by omega, fun j s hj => by omega⟩ ?_ ?_
    · simp -dsimp -implicitDefEqProofs only [go_sem, ↓reduceIte, reduceCtorEq, rn1, rn2, rn3, rn4, rn5, rn6, rn7, ri1, ri2, ri3, ri4, ri5]
    intro ⟨i, hi, hok⟩
    simp -dsimp -implicitDefEqProofs only [go_sem, ↓reduceIte, reduceCtorEq, rn1, rn2, rn3, rn4, rn5, rn6, rn7, ri1, ri2, ri3, ri4, ri5]
    refine ⟨fun hlt => ?_, fun hge => ?_⟩
    · have hil : i < n.V.length := by omega
      obtain ⟨s, hs⟩ : ∃ s, n.V[i]? = some s := ⟨_, List.getElem?_eq_getElem hil⟩
      have hwi := wrapS hil (by omega)
      have hsz := z4 s (List.mem_of_getElem? hs)
      refine vfor sitOk (ι := F2Inv s) (fun v => ⟨94, [(13, aI v.i), (12, aI i), (11, aB true), (5, aP 0 0), (1, aI seen), (2, aI now), (3, aS name), (4, aS ca)], [(0, some (.var [cD (svsD n.V), cI n.N, cD (bnsD n.B), cD (cksD n.C)] true))], 300⟩) (fun v => s.Z.length - v.i) ⟨0, by omega, fun j s hj => by omega⟩ ?_ ?_
      · simp -dsimp -implicitDefEqProofs only [go_sem, ↓reduceIte, reduceCtorEq, rn1, rn2, rn3, rn4, rn5, rn6, rn7, ri1, ri2, ri3, ri4, ri5]
      intro ⟨k, hkl, hok2⟩
      simp -dsimp -implicitDefEqProofs only [hs, forall_eq', go_sem, ↓reduceIte, reduceCtorEq, rn1, rn2, rn3, rn4, rn5, rn6, rn7, ri1, ri2, ri3, ri4, ri5]
      refine ⟨by omega, hil, fun hlt2 => ?_, fun hge2 => ?_⟩
      · have hkz : k < s.Z.length := by omega
        obtain ⟨z, hzk⟩ : ∃ z, s.Z[k]? = some z := ⟨_, List.getElem?_eq_getElem hkz⟩
        have hwk := wrapS hkz (by omega)
        have hrz := z5 s (List.mem_of_getElem? hs) z (List.mem_of_getElem? hzk)
        refine vfor sitOk (ι := F3Inv z) (fun v => ⟨94, [(14, aI v.i), (13, aI k), (12, aI i), (11, aB true), (5, aP 0 0), (1, aI seen), (2, aI now), (3, aS name), (4, aS ca)], [(0, some (.var [cD (svsD n.V), cI n.N, cD (bnsD n.B), cD (cksD n.C)] true))], 400⟩) (fun v => z.R.length - v.i) ⟨0, by omega, fun j s hj => by omega⟩ ?_ ?_
        · simp -dsimp -implicitDefEqProofs only [go_sem, ↓reduceIte, reduceCtorEq, rn1, rn2, rn3, rn4, rn5, rn6, rn7, ri1, ri2, ri3, ri4, ri5]
        intro ⟨j, hjl, hok3⟩
        simp -dsimp -implicitDefEqProofs only [hs, hzk, forall_eq', go_sem, ↓reduceIte, reduceCtorEq, rn1, rn2, rn3, rn4, rn5, rn6, rn7, ri1, ri2, ri3, ri4, ri5]
        refine ⟨by omega, hil, by omega, hkz, fun hlt3 => ?_, fun hge3 => ?_⟩
        · have hjz : j < z.R.length := by omega
          obtain ⟨r, hr⟩ : ∃ r, z.R[j]? = some r := ⟨_, List.getElem?_eq_getElem hjz⟩
          have hwj := wrapS hjz (by omega)
          by_cases hr2 : r.K = 2
          · simp -dsimp -implicitDefEqProofs only [hs, hzk, hr, hr2, forall_eq', go_sem, ↓reduceIte, reduceCtorEq, rn1, rn2, rn3, rn4, rn5, rn6, rn7, ri1, ri2, ri3, ri4, ri5]
            exact ⟨by omega, hil, by omega, hkz, by omega, hjz⟩
          · simp -dsimp -implicitDefEqProofs only [hs, hzk, hr, hr2, forall_eq', go_sem, ↓reduceIte, reduceCtorEq, rn1, rn2, rn3, rn4, rn5, rn6, rn7, ri1, ri2, ri3, ri4, ri5]
            refine ⟨by omega, hil, by omega, hkz, by omega, hjz, again ⟨j + 1, by omega, go_on hr hr2 hok3⟩ (by simp; omega) ?_⟩
            simp -dsimp -implicitDefEqProofs only [hwj, go_sem, ↓reduceIte, reduceCtorEq, rn1, rn2, rn3, rn4, rn5, rn6, rn7, ri1, ri2, ri3, ri4, ri5]
        · have hjz : j = z.R.length := by omega
          subst hjz
          refine again ⟨k + 1, by omega, go_on hzk (all_of hok3) hok2⟩ (by simp; omega) ?_
          simp -dsimp -implicitDefEqProofs only [hwk, go_sem, ↓reduceIte, reduceCtorEq, rn1, rn2, rn3, rn4, rn5, rn6, rn7, ri1, ri2, ri3, ri4, ri5]
      · have hkz : k = s.Z.length := by omega
        subst hkz
        refine again ⟨i + 1, by omega, go_on hs (all_of hok2) hok⟩ (by simp; omega) ?_
        simp -dsimp -implicitDefEqProofs only [hwi, go_sem, ↓reduceIte, reduceCtorEq, rn1, rn2, rn3, rn4, rn5, rn6, rn7, ri1, ri2, ri3, ri4, ri5]
    · have hil : i = n.V.length := by omega
      subst hil
      have hno := all_of hok
      have hfr := caa_free (n := n) (seen := seen) (now := now) (ca := ca) hno (name.length + 1) [] name rfl (fun x hx => by cases hx)
      change (caaV n seen [] now name ca).Y = decide ((caaV n seen [] now name ca).E = 0) at hfr
      refine callP (caa23_ok n hz seen [] nil_cz now name ca) ?_
      by_cases h0 : (caaV n seen [] now name ca).E = 0
      · rw [decide_eq_true h0] at hfr
        simp -dsimp -implicitDefEqProofs only [h0, hfr, go_sem, ↓reduceIte, reduceCtorEq, rn1, rn2, rn3, rn4, rn5, rn6, rn7, ri1, ri2, ri3, ri4, ri5]
      · rw [decide_eq_false h0] at hfr
        simp -dsimp -implicitDefEqProofs only [h0, hfr, go_sem, ↓reduceIte, reduceCtorEq, rn1, rn2, rn3, rn4, rn5, rn6, rn7, ri1, ri2, ri3, ri4, ri5]
        exact (beq_eq_false_iff_ne.2 h0).symm
structure S1Inv (x : List (List Kp)) where
  i : Nat
  le : i ≤ x.length
set_option maxHeartbeats 4000000 in
theorem vstays_ok (n : Nt) (l : List (List Kp)) (now : Int) (name token ca : Bs) (need : Int) (hk : ∀ c ∈ n.C, -9223372036854775808 ≤ c.B ∧ c.B ≤ 9223372036854775807) (hw : ∀ c ∈ n.C, c.W.length ≤ 9223372036854775807) :
    Meets Tryz.prog 9 [n.arg, (false, [vD (csD l)]), (false, [vI now]), (false, [vS name]), (false, [vS token]), (false, [vS ca]), (false, [vI need])] (rOne (vB true)) := by
  refine meets Tryz.func9 rfl rfl Tryz.ntmps9 Tryz.results9 rfl ?_
  simp -dsimp -implicitDefEqProofs only [go_sem, ↓reduceIte, reduceCtorEq, rn1, rn2, rn3, rn4, rn5, rn6, rn7, ri1, ri2, ri3, ri4, ri5]
  refine callP live23_ok ?_
  simp -dsimp -implicitDefEqProofs only [go_sem, ↓reduceIte, reduceCtorEq, rn1, rn2, rn3, rn4, rn5, rn6, rn7, ri1, ri2, ri3, ri4, ri5]
  refine callP (few23_ok n l name token ca) ?_
  cases hf : few23 n l name token ca with
  | false => simp -dsimp -implicitDefEqProofs only [hf, go_sem, ↓reduceIte, reduceCtorEq, rn1, rn2, rn3, rn4, rn5, rn6, rn7, ri1, ri2, ri3, ri4, ri5]
  | true =>
    obtain ⟨hfn, hl, hc, hn, _, _⟩ := few23_iff hf
    have hz := sz_of hfn hk hw
    have fa := look23_ok n hz l (by omega) hc now name (by omega) token ca need
    simp -dsimp -implicitDefEqProofs only [hf, go_sem, ↓reduceIte, reduceCtorEq, rn1, rn2, rn3, rn4, rn5, rn6, rn7, ri1, ri2, ri3, ri4, ri5]
    cases hok : lookOk (lookE n l now name token ca need) with
    | false =>
      obtain ⟨n0, n2⟩ := lookOk_not.1 hok
      rw [(look_sn0 hok).1, (look_sn0 hok).2] at fa
      refine callP fa ?_
      simp -dsimp -implicitDefEqProofs only [n0, n2, go_sem, ↓reduceIte, reduceCtorEq, rn1, rn2, rn3, rn4, rn5, rn6, rn7, ri1, ri2, ri3, ri4, ri5]
    | true =>
      obtain ⟨c1, c2, c3, c4⟩ := look_chk hok
      rw [look_sn hok] at fa
      have hxz := look_cz n (l := l) (now := now) (name := name) (token := token) (ca := ca) (need := need)
      have hl1 : ((lookS n l now name token ca need).length : Int) = l.length := by omega
      have hl2 : ((lookX n l now name token ca need).length : Int) = l.length := by omega
      have hke := lookOk_iff.1 hok
      refine callP fa ?_
      rcases hke with hke | hke
      all_goals
        simp -dsimp -implicitDefEqProofs only [hke, go_sem, ↓reduceIte, reduceCtorEq, rn1, rn2, rn3, rn4, rn5, rn6, rn7, ri1, ri2, ri3, ri4, ri5]
        generalize lookS n l now name token ca need = VS at *
        generalize lookX n l now name token ca need = X at *
        refine vfor sitOk (ι := S1Inv X) (fun v => ⟨116, [(19, aI v.i), (17, aD (csD X)), (16, aP 200 0), (15, aB true), (7, aP 0 0), (1, aD (csD l)), (2, aI now), (3, aS name)],
          [(200, some (.var [cS name, cI now, cD (bsD VS)] true)), (0, some (.var [cD (svsD n.V), cI n.N, cD (bnsD n.B), cD (cksD n.C)] true))], 400⟩) (fun v => X.length - v.i) ⟨0, by omega⟩ ?_ ?_
        · simp -dsimp -implicitDefEqProofs only [go_sem, ↓reduceIte, reduceCtorEq, rn1, rn2, rn3, rn4, rn5, rn6, rn7, ri1, ri2, ri3, ri4, ri5]
        intro ⟨i, hi⟩
        simp -dsimp -implicitDefEqProofs only [go_sem, ↓reduceIte, reduceCtorEq, rn1, rn2, rn3, rn4, rn5, rn6, rn7, ri1, ri2, ri3, ri4, ri5]
        refine ⟨fun hlt => ?_, fun hge => ?_⟩
        · have hil : i < X.length := by omega
          obtain ⟨x, hx⟩ : ∃ x, X[i]? = some x := ⟨_, List.getElem?_eq_getElem hil⟩
          have hwi := wrapS hil (by omega)
          have hxm := List.mem_of_getElem? hx
          have hcx := hxz x hxm
          have hc0 := ccheck_ok x (by have := hcx.l; omega) (fun y hy => by have := hcx.r y hy; omega)
          rw [c4 x hxm] at hc0
          simp -dsimp -implicitDefEqProofs only [hx, forall_eq', go_sem, ↓reduceIte, reduceCtorEq, rn1, rn2, rn3, rn4, rn5, rn6, rn7, ri1, ri2, ri3, ri4, ri5]
          refine ⟨by omega, hil, callP hc0 ?_⟩
          simp -dsimp -implicitDefEqProofs only [go_sem, ↓reduceIte, reduceCtorEq, rn1, rn2, rn3, rn4, rn5, rn6, rn7, ri1, ri2, ri3, ri4, ri5]
          refine again ⟨i + 1, by omega⟩ (by simp; omega) ?_
          simp -dsimp -implicitDefEqProofs only [hwi, go_sem, ↓reduceIte, reduceCtorEq, rn1, rn2, rn3, rn4, rn5, rn6, rn7, ri1, ri2, ri3, ri4, ri5]
        · have hck := check_okN n hz
          rw [c1] at hck
          simp -dsimp -implicitDefEqProofs only [hl1, hl2, go_sem, ↓reduceIte, reduceCtorEq, rn1, rn2, rn3, rn4, rn5, rn6, rn7, ri1, ri2, ri3, ri4, ri5]
          refine callP hck ?_
          simp -dsimp -implicitDefEqProofs only [go_sem, ↓reduceIte, reduceCtorEq, rn1, rn2, rn3, rn4, rn5, rn6, rn7, ri1, ri2, ri3, ri4, ri5]
end Go.Proofs.YtolpobgfcokoaaaGreatDoor
