
/- VantageHonest, VantageAlike: the laws' contracts. -/
import Derived.Test.YtolpobgfcokoaaaGreatDoorVL
open Nat renaming reduceLT → rn1, reduceLeDiff → rn2, reduceEqDiff → rn3, reduceAdd → rn4, reduceMul → rn5, reduceSub → rn6, reduceBEq → rn7
open Int renaming reduceLT → ri1, reduceLE → ri2, reduceEq → ri3, reduceBEq → ri4, reduceNeg → ri5
namespace Go.Proofs.YtolpobgfcokoaaaGreatDoor
open Go.Eng
set_option linter.unusedSimpArgs false
set_option maxRecDepth 10000

set_option maxHeartbeats 4000000 in
theorem vhonest_ok (n : Nt) (now : Int) (name token ca : Bs) (need : Int) (hk : ∀ c ∈ n.C, -9223372036854775808 ≤ c.B ∧ c.B ≤ 9223372036854775807) (hw : ∀ c ∈ n.C, c.W.length ≤ 9223372036854775807) :
    Meets Tryz.prog 10 [n.arg, (false, [vI now]), (false, [vS name]), (false, [vS token]), (false, [vS ca]), (false, [vI need])] (rOne (vB true)) := by
  refine meets Tryz.func10 rfl rfl Tryz.ntmps10 Tryz.results10 rfl ?_
  simp -dsimp -implicitDefEqProofs only [go_sem, ↓reduceIte, reduceCtorEq, rn1, rn2, rn3, rn4, rn5, rn6, rn7, ri1, ri2, ri3, ri4, ri5]
  refine callP live23_ok ?_
  simp -dsimp -implicitDefEqProofs only [go_sem, ↓reduceIte, reduceCtorEq, rn1, rn2, rn3, rn4, rn5, rn6, rn7, ri1, ri2, ri3, ri4, ri5]
  refine callP (few23_ok n [] name token ca) ?_
  cases hf : few23 n [] name token ca with
  | false => simp -dsimp -implicitDefEqProofs only [hf, go_sem, ↓reduceIte, reduceCtorEq, rn1, rn2, rn3, rn4, rn5, rn6, rn7, ri1, ri2, ri3, ri4, ri5]
  | true =>
    obtain ⟨hfn, _, _, hn, _, _⟩ := few23_iff hf
    have hz := sz_of hfn hk hw
    have hfz := few_sz hfn
    have hbl := riseI_len (n.B.map Bn.S)
    rw [List.length_map] at hbl
    change (bentL n).length ≤ _ at hbl
    simp -dsimp -implicitDefEqProofs only [hf, go_sem, ↓reduceIte, reduceCtorEq, rn1, rn2, rn3, rn4, rn5, rn6, rn7, ri1, ri2, ri3, ri4, ri5]
    refine callP (bent_ok n (by omega)) ?_
    simp -dsimp -implicitDefEqProofs only [go_sem, ↓reduceIte, reduceCtorEq, rn1, rn2, rn3, rn4, rn5, rn6, rn7, ri1, ri2, ri3, ri4, ri5]
    intro hnb
    refine callP (empty23_ok n.N) ?_
    simp -dsimp -implicitDefEqProofs only [go_sem, ↓reduceIte, reduceCtorEq, rn1, rn2, rn3, rn4, rn5, rn6, rn7, ri1, ri2, ri3, ri4, ri5]
    have hm := empty_len n.N
    have hfa := look23_ok n hz (emptyL n.N) (by omega) (empty_cz n.N) now name (by omega) token ca need
    have hsl := look_len n (l := emptyL n.N) (now := now) (name := name) (token := token) (ca := ca) (need := need)
    by_cases h0 : lookE n (emptyL n.N) now name token ca need = 0
    · obtain ⟨g1, g2, g3, g4⟩ := honest_law (n := n) (now := now) (name := name) (token := token) (ca := ca) (need := need) (m := min n.N.toNat 20) (by omega) h0
      have hok : lookOk (lookE n (emptyL n.N) now name token ca need) = true := by rw [h0]; rfl
      rw [h0] at hfa
      rw [look_sn hok] at hfa hsl
      refine callP hfa ?_
      simp -dsimp -implicitDefEqProofs only [go_sem, ↓reduceIte, reduceCtorEq, rn1, rn2, rn3, rn4, rn5, rn6, rn7, ri1, ri2, ri3, ri4, ri5]
      refine ⟨drawn (by kernel_rfl), callP (caa23_ok n hz (-1) [] nil_cz now name ca) ?_⟩
      simp -dsimp -implicitDefEqProofs only [g3, g4, go_sem, ↓reduceIte, reduceCtorEq, rn1, rn2, rn3, rn4, rn5, rn6, rn7, ri1, ri2, ri3, ri4, ri5]
      refine callP (votes23_ok ⟨name, now, lookS n (emptyL n.N) now name token ca need⟩ (by have := hsl.1; simp at this ⊢; omega)) ?_
      have g1' : need ≤ votesN (lookS n (emptyL n.N) now name token ca need) := g1
      simp -dsimp -implicitDefEqProofs only [g1', go_sem, ↓reduceIte, reduceCtorEq, rn1, rn2, rn3, rn4, rn5, rn6, rn7, ri1, ri2, ri3, ri4, ri5]
      refine callP (at23_ok name (by omega)) ?_
      simp -dsimp -implicitDefEqProofs only [go_sem, ↓reduceIte, reduceCtorEq, rn1, rn2, rn3, rn4, rn5, rn6, rn7, ri1, ri2, ri3, ri4, ri5]
      refine callP (stands23_ok n hz now (atN name) token) ?_
      simp -dsimp -implicitDefEqProofs only [g2, g3, g4, go_sem, ↓reduceIte, reduceCtorEq, rn1, rn2, rn3, rn4, rn5, rn6, rn7, ri1, ri2, ri3, ri4, ri5]
      exact drawn (by kernel_rfl)
    · refine callP hfa ?_
      simp -dsimp -implicitDefEqProofs only [h0, go_sem, ↓reduceIte, reduceCtorEq, rn1, rn2, rn3, rn4, rn5, rn6, rn7, ri1, ri2, ri3, ri4, ri5]
      exact drawn (by kernel_rfl)
theorem empty_at {n : Int} {i : Nat} (h : i < (emptyL n).length) : (emptyL n)[i]? = some [] := by
  unfold emptyL at h ⊢
  rw [emN_len] at h
  unfold emN
  rw [List.getElem?_replicate, if_pos h]
theorem look_e {n : Nt} {l : List (List Kp)} {now : Int} {name token ca : Bs} {need : Int} (h : lookOk (lookE n l now name token ca need) = true) : lookE n l now name token ca need = if votesN (lookS n l now name token ca need) < need then 230 else 0 := by
  have e := (look_good h).2.2.2.2
  unfold lookS
  rw [h]
  exact e
structure A1Inv (V : List Bool) where
  i : Nat
  le : i ≤ V.length
structure A2Inv (B : List Int) where
  k : Nat
  le : k ≤ B.length
def inB (B : List Int) (i : Int) : Bool := B.any fun x => x == i
theorem inB_step {B : List Int} {k : Nat} {x : Int} (i : Int) (hx : B[k]? = some x) : inB (B.take (k + 1)) i = (inB (B.take k) i || x == i) := by
  unfold inB
  rw [List.take_add_one, hx, List.any_append]
  simp
theorem inB_not {B : List Int} {i : Int} (h : inB B i = false) : i ∉ B := fun hm => by
  unfold inB at h
  rw [List.any_eq_false] at h
  exact h i hm (by simp)
set_option maxHeartbeats 4000000 in
theorem valike_ok (n : Nt) (now : Int) (name token ca : Bs) (hk : ∀ c ∈ n.C, -9223372036854775808 ≤ c.B ∧ c.B ≤ 9223372036854775807) (hw : ∀ c ∈ n.C, c.W.length ≤ 9223372036854775807) :
    Meets Tryz.prog 11 [n.arg, (false, [vI now]), (false, [vS name]), (false, [vS token]), (false, [vS ca])] (rOne (vB true)) := by
  refine meets Tryz.func11 rfl rfl Tryz.ntmps11 Tryz.results11 rfl ?_
  simp -dsimp -implicitDefEqProofs only [go_sem, ↓reduceIte, reduceCtorEq, rn1, rn2, rn3, rn4, rn5, rn6, rn7, ri1, ri2, ri3, ri4, ri5]
  refine callP live23_ok ?_
  simp -dsimp -implicitDefEqProofs only [go_sem, ↓reduceIte, reduceCtorEq, rn1, rn2, rn3, rn4, rn5, rn6, rn7, ri1, ri2, ri3, ri4, ri5]
  refine callP (few23_ok n [] name token ca) ?_
  cases hf : few23 n [] name token ca with
  | false => simp -dsimp -implicitDefEqProofs only [hf, go_sem, ↓reduceIte, reduceCtorEq, rn1, rn2, rn3, rn4, rn5, rn6, rn7, ri1, ri2, ri3, ri4, ri5]
  | true =>
    obtain ⟨hfn, _, _, hn, _, _⟩ := few23_iff hf
    have hz := sz_of hfn hk hw
    have hfz := few_sz hfn
    have hbl := riseI_len (n.B.map Bn.S)
    rw [List.length_map] at hbl
    change (bentL n).length ≤ _ at hbl
    simp -dsimp -implicitDefEqProofs only [hf, go_sem, ↓reduceIte, reduceCtorEq, rn1, rn2, rn3, rn4, rn5, rn6, rn7, ri1, ri2, ri3, ri4, ri5]
    intro hN
    refine callP (empty23_ok n.N) ?_
    simp -dsimp -implicitDefEqProofs only [go_sem, ↓reduceIte, reduceCtorEq, rn1, rn2, rn3, rn4, rn5, rn6, rn7, ri1, ri2, ri3, ri4, ri5]
    have hm := empty_len n.N
    have hfa := look23_ok n hz (emptyL n.N) (by omega) (empty_cz n.N) now name (by omega) token ca 1
    have hsl := look_len n (l := emptyL n.N) (now := now) (name := name) (token := token) (ca := ca) (need := 1)
    cases hok : lookOk (lookE n (emptyL n.N) now name token ca 1) with
    | false =>
      obtain ⟨n0, n2⟩ := lookOk_not.1 hok
      rw [(look_sn0 hok).1, (look_sn0 hok).2] at hfa
      refine callP hfa ?_
      simp -dsimp -implicitDefEqProofs only [n0, n2, go_sem, ↓reduceIte, reduceCtorEq, rn1, rn2, rn3, rn4, rn5, rn6, rn7, ri1, ri2, ri3, ri4, ri5]
      exact drawn (by kernel_rfl)
    | true =>
      obtain ⟨g1, _, _, _, _⟩ := look_good hok
      obtain ⟨_, c2, _, _⟩ := look_chk hok
      have hall := fun i (hi : i < (emptyL n.N).length) => (own_law hok (empty_at hi)).1
      have hvt := votes23_ok ⟨name, now, lookS n (emptyL n.N) now name token ca 1⟩ (by simp only; omega)
      rw [look_sn hok, look_e hok] at hfa
      have hlaw := fun i (h0 : 0 ≤ i) (h1 : i < n.N) (h : i ∉ bentL n) => alike_law (n := n) h0 h1 h now name token ca
      have hcc := caa23_ok n hz (-1) [] nil_cz now name ca
      have hss := stands23_ok n hz now (atN name) token
      generalize lookS n (emptyL n.N) now name token ca 1 = V at *
      have hlV : (V.length : Int) = n.N := by omega
      generalize (caaV n (-1) [] now name ca).Y = yY at *
      generalize standsB n now (atN name) token = yT at *
      obtain ⟨e, he, hd⟩ : ∃ e : Int, (if votesN V < 1 then (230 : Int) else 0) = e ∧ ((e = 0 ∧ 0 < votesN V) ∨ (e = 230 ∧ ¬ 0 < votesN V)) := by
        by_cases hv : votesN V < 1
        · exact ⟨230, if_pos hv, .inr ⟨rfl, by omega⟩⟩
        · exact ⟨0, if_neg hv, .inl ⟨rfl, by omega⟩⟩
      rw [he] at hfa
      rcases hd with ⟨rfl, hv⟩ | ⟨rfl, hv⟩
      all_goals
        refine callP hfa ?_
        simp -dsimp -implicitDefEqProofs only [hv, hlV, go_sem, ↓reduceIte, reduceCtorEq, rn1, rn2, rn3, rn4, rn5, rn6, rn7, ri1, ri2, ri3, ri4, ri5]
        refine ⟨drawn (by kernel_rfl), callP hvt ?_⟩
        simp -dsimp -implicitDefEqProofs only [hv, hlV, go_sem, ↓reduceIte, reduceCtorEq, rn1, rn2, rn3, rn4, rn5, rn6, rn7, ri1, ri2, ri3, ri4, ri5]
        refine callP (at23_ok name (by omega)) ?_
        simp -dsimp -implicitDefEqProofs only [go_sem, ↓reduceIte, reduceCtorEq, rn1, rn2, rn3, rn4, rn5, rn6, rn7, ri1, ri2, ri3, ri4, ri5]
        refine callP hss ?_
        simp -dsimp -implicitDefEqProofs only [go_sem, ↓reduceIte, reduceCtorEq, rn1, rn2, rn3, rn4, rn5, rn6, rn7, ri1, ri2, ri3, ri4, ri5]
        refine ⟨drawn (by kernel_rfl), callP hcc ?_⟩
        simp -dsimp -implicitDefEqProofs only [go_sem, ↓reduceIte, reduceCtorEq, rn1, rn2, rn3, rn4, rn5, rn6, rn7, ri1, ri2, ri3, ri4, ri5]
        refine callP (bent_ok n (by omega)) ?_
        simp -dsimp -implicitDefEqProofs only [go_sem, ↓reduceIte, reduceCtorEq, rn1, rn2, rn3, rn4, rn5, rn6, rn7, ri1, ri2, ri3, ri4, ri5]
        generalize bentL n = B at *
        refine vfor sitOk (ι := A1Inv V) (fun v => ⟨133, [(20, aI v.i), (19, aO 608), (16, aB yY), (15, aB yT), (12, aP 240 0), (11, aB true)], [(608, some (.row 1 3 (B.map rowI) true)), (240, some (.var [cS name, cI now, cD (bsD V)] true))], 700⟩) (fun v => V.length - v.i) ⟨0, by omega⟩ ?_ ?_
        · simp -dsimp -implicitDefEqProofs only [go_sem, ↓reduceIte, reduceCtorEq, rn1, rn2, rn3, rn4, rn5, rn6, rn7, ri1, ri2, ri3, ri4, ri5]
        intro ⟨i, hi⟩
        simp -dsimp -implicitDefEqProofs only [go_sem, ↓reduceIte, reduceCtorEq, rn1, rn2, rn3, rn4, rn5, rn6, rn7, ri1, ri2, ri3, ri4, ri5]
        intro hlt
        have hil : i < V.length := by omega
        have hwi := wrapS hil (by omega)
        refine vfor sitOk (ι := A2Inv B) (fun v => ⟨133, [(22, aI v.k), (21, aB (inB (B.take v.k) (i : Int))), (20, aI i), (19, aO 608), (16, aB yY), (15, aB yT), (12, aP 240 0), (11, aB true)], [(608, some (.row 1 3 (B.map rowI) true)), (240, some (.var [cS name, cI now, cD (bsD V)] true))], 800⟩) (fun v => B.length - v.k) ⟨0, by omega⟩ ?_ ?_
        · simp -dsimp -implicitDefEqProofs only [go_sem, ↓reduceIte, reduceCtorEq, rn1, rn2, rn3, rn4, rn5, rn6, rn7, ri1, ri2, ri3, ri4, ri5]
          rfl
        intro ⟨k, hkl⟩
        simp -dsimp -implicitDefEqProofs only [go_sem, ↓reduceIte, reduceCtorEq, rn1, rn2, rn3, rn4, rn5, rn6, rn7, ri1, ri2, ri3, ri4, ri5]
        refine ⟨fun hlt2 => ?_, fun hge2 => ?_⟩
        · have hkB : k < B.length := by omega
          obtain ⟨x, hx⟩ : ∃ x, B[k]? = some x := ⟨_, List.getElem?_eq_getElem hkB⟩
          have hwk := wrapS hkB (by omega)
          have hst := inB_step (i : Int) hx
          cases hb : inB (B.take k) (i : Int) with
          | true =>
            rw [hb, Bool.true_or] at hst
            simp -dsimp -implicitDefEqProofs only [hb, go_sem, ↓reduceIte, reduceCtorEq, rn1, rn2, rn3, rn4, rn5, rn6, rn7, ri1, ri2, ri3, ri4, ri5]
            refine again ⟨k + 1, by omega⟩ (by simp; omega) ?_
            simp -dsimp -implicitDefEqProofs only [hwk, hst, go_sem, ↓reduceIte, reduceCtorEq, rn1, rn2, rn3, rn4, rn5, rn6, rn7, ri1, ri2, ri3, ri4, ri5]
          | false =>
            rw [hb, Bool.false_or] at hst
            simp -dsimp -implicitDefEqProofs only [hb, hx, forall_eq', go_sem, ↓reduceIte, reduceCtorEq, rn1, rn2, rn3, rn4, rn5, rn6, rn7, ri1, ri2, ri3, ri4, ri5]
            refine ⟨by omega, hkB, again ⟨k + 1, by omega⟩ (by simp; omega) ?_⟩
            simp -dsimp -implicitDefEqProofs only [hwk, hst, go_sem, ↓reduceIte, reduceCtorEq, rn1, rn2, rn3, rn4, rn5, rn6, rn7, ri1, ri2, ri3, ri4, ri5]
        · have hkB : k = B.length := by omega
          subst hkB
          rw [List.take_length]
          cases hb : inB B (i : Int) with
          | true =>
            simp -dsimp -implicitDefEqProofs only [hb, go_sem, ↓reduceIte, reduceCtorEq, rn1, rn2, rn3, rn4, rn5, rn6, rn7, ri1, ri2, ri3, ri4, ri5]
            refine again ⟨i + 1, by omega⟩ (by simp; omega) ?_
            simp -dsimp -implicitDefEqProofs only [hwi, go_sem, ↓reduceIte, reduceCtorEq, rn1, rn2, rn3, rn4, rn5, rn6, rn7, ri1, ri2, ri3, ri4, ri5]
          | false =>
            have hV := hall i (by omega)
            rw [hlaw (i : Int) (by omega) (by omega) (inB_not hb)] at hV
            simp -dsimp -implicitDefEqProofs only [hb, hV, forall_eq', go_sem, ↓reduceIte, reduceCtorEq, rn1, rn2, rn3, rn4, rn5, rn6, rn7, ri1, ri2, ri3, ri4, ri5]
            refine ⟨by omega, hil, fun e => ⟨fun h => h (by rw [e, Bool.true_and]), fun _ => again ⟨i + 1, by omega⟩ (by simp; omega) ?_⟩, fun e => ⟨fun h => absurd h.1 (by rw [e]; simp), fun _ => again ⟨i + 1, by omega⟩ (by simp; omega) ?_⟩⟩
            all_goals simp -dsimp -implicitDefEqProofs only [hwi, go_sem, ↓reduceIte, reduceCtorEq, rn1, rn2, rn3, rn4, rn5, rn6, rn7, ri1, ri2, ri3, ri4, ri5]
end Go.Proofs.YtolpobgfcokoaaaGreatDoor
