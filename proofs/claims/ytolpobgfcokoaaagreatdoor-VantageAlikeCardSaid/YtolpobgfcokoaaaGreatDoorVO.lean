
/- The document's answer: Same, Caches, Few; few, empty, stands. The document's example. stands. Readers of arguments: lists of caches, what was seen. -/
import Derived.Test.YtolpobgfcokoaaaGreatDoorVN
open Nat renaming reduceLT → rn1, reduceLeDiff → rn2, reduceEqDiff → rn3, reduceAdd → rn4, reduceMul → rn5, reduceSub → rn6, reduceBEq → rn7
open Int renaming reduceLT → ri1, reduceLE → ri2, reduceEq → ri3, reduceBEq → ri4, reduceNeg → ri5
namespace Go.Proofs.YtolpobgfcokoaaaGreatDoor
open Go.Eng
set_option linter.unusedSimpArgs false
set_option maxRecDepth 10000

structure BqInv (l : List Bool) where
  i : Nat
  le : i ≤ l.length
theorem rsn_ok (s : Sn) (hl : s.V.length ≤ 1000000) : Meets Tryz.prog 16 [s.arg, s.arg] (rOne (vB true)) := by
  refine meets Tryz.func16 rfl rfl Tryz.ntmps16 Tryz.results16 rfl ?_
  simp -dsimp -implicitDefEqProofs only [go_sem, ↓reduceIte, reduceCtorEq, rn1, rn2, rn3, rn4, rn5, rn6, rn7, ri1, ri2, ri3, ri4, ri5]
  refine vfor sitOk (ι := BqInv s.V) (fun v => ⟨45, [(5, aI v.i), (3, aP 8 0), (2, aP 0 0)], [(8, some (.var [cS s.N, cI s.A, cD (bsD s.V)] true)), (0, some (.var [cS s.N, cI s.A, cD (bsD s.V)] true))], 100⟩) (fun v => s.V.length - v.i) ⟨0, by omega⟩ ?_ ?_
  · simp -dsimp -implicitDefEqProofs only [go_sem, ↓reduceIte, reduceCtorEq, rn1, rn2, rn3, rn4, rn5, rn6, rn7, ri1, ri2, ri3, ri4, ri5]
  intro ⟨i, hi⟩
  simp -dsimp -implicitDefEqProofs only [go_sem, ↓reduceIte, reduceCtorEq, rn1, rn2, rn3, rn4, rn5, rn6, rn7, ri1, ri2, ri3, ri4, ri5]
  intro hlt
  have hil : i < s.V.length := by omega
  obtain ⟨x, hx⟩ : ∃ x, s.V[i]? = some x := ⟨_, List.getElem?_eq_getElem hil⟩
  have hw := wrapS hil (by omega)
  simp -dsimp -implicitDefEqProofs only [hx, forall_eq', hw, go_sem, ↓reduceIte, reduceCtorEq, rn1, rn2, rn3, rn4, rn5, rn6, rn7, ri1, ri2, ri3, ri4, ri5]
  refine ⟨by omega, hil, by omega, hil, drawn (by kernel_rfl), again ⟨i + 1, by omega⟩ (by simp; omega) ?_⟩
  simp -dsimp -implicitDefEqProofs only [hw, go_sem, ↓reduceIte, reduceCtorEq, rn1, rn2, rn3, rn4, rn5, rn6, rn7, ri1, ri2, ri3, ri4, ri5]
structure CqInv (l : List (List Kp)) where
  i : Nat
  le : i ≤ l.length
theorem rcs_ok (l : List (List Kp)) (hl : l.length ≤ 1000000) (hc : ∀ L ∈ l, Cz L) : Meets Tryz.prog 17 [(false, [vD (csD l)]), (false, [vD (csD l)])] (rOne (vB true)) := by
  refine meets Tryz.func17 rfl rfl Tryz.ntmps17 Tryz.results17 rfl ?_
  simp -dsimp -implicitDefEqProofs only [go_sem, ↓reduceIte, reduceCtorEq, rn1, rn2, rn3, rn4, rn5, rn6, rn7, ri1, ri2, ri3, ri4, ri5]
  refine vfor sitOk (ι := CqInv l) (fun v => ⟨29, [(5, aI v.i), (0, aD (csD l)), (1, aD (csD l))], [], 100⟩) (fun v => l.length - v.i) ⟨0, by omega⟩ ?_ ?_
  · simp -dsimp -implicitDefEqProofs only [go_sem, ↓reduceIte, reduceCtorEq, rn1, rn2, rn3, rn4, rn5, rn6, rn7, ri1, ri2, ri3, ri4, ri5]
  intro ⟨i, hi⟩
  simp -dsimp -implicitDefEqProofs only [go_sem, ↓reduceIte, reduceCtorEq, rn1, rn2, rn3, rn4, rn5, rn6, rn7, ri1, ri2, ri3, ri4, ri5]
  intro hlt
  have hil : i < l.length := by omega
  obtain ⟨x, hx⟩ : ∃ x, l[i]? = some x := ⟨_, List.getElem?_eq_getElem hil⟩
  have hw := wrapS hil (by omega)
  have hcx := hc x (List.mem_of_getElem? hx)
  simp -dsimp -implicitDefEqProofs only [hx, forall_eq', hw, go_sem, ↓reduceIte, reduceCtorEq, rn1, rn2, rn3, rn4, rn5, rn6, rn7, ri1, ri2, ri3, ri4, ri5]
  refine ⟨by omega, hil, by omega, hil, callP (rsame14_ok x x (by have := hcx.l; omega) (fun k hk => by have := hcx.r k hk; omega)) ?_⟩
  simp -dsimp -implicitDefEqProofs only [decide_true, go_sem, ↓reduceIte, reduceCtorEq, rn1, rn2, rn3, rn4, rn5, rn6, rn7, ri1, ri2, ri3, ri4, ri5]
  refine ⟨drawn (by kernel_rfl), again ⟨i + 1, by omega⟩ (by simp; omega) ?_⟩
  simp -dsimp -implicitDefEqProofs only [hw, go_sem, ↓reduceIte, reduceCtorEq, rn1, rn2, rn3, rn4, rn5, rn6, rn7, ri1, ri2, ri3, ri4, ri5]
def fewL (l : List (List Kp)) : Bool := (l.take 10).all fewC && decide (l.length ≤ 10)
theorem rfewL_ok (l : List (List Kp)) : Meets Tryz.prog 33 [(false, [vD (csD l)])] (rOne (vB (fewL l))) := by
  refine meets Tryz.func33 rfl rfl Tryz.ntmps33 Tryz.results33 rfl ?_
  simp -dsimp -implicitDefEqProofs only [go_sem, ↓reduceIte, reduceCtorEq, rn1, rn2, rn3, rn4, rn5, rn6, rn7, ri1, ri2, ri3, ri4, ri5]
  refine vfor sitOk (ι := AllInv 10 fewC l) (fun v => ⟨25, [(3, aI v.i), (0, aD (csD l))], [], 100⟩) (fun v => l.length - v.i) ⟨0, by omega, by omega, fun j x hj => by omega⟩ ?_ ?_
  · simp -dsimp -implicitDefEqProofs only [go_sem, ↓reduceIte, reduceCtorEq, rn1, rn2, rn3, rn4, rn5, rn6, rn7, ri1, ri2, ri3, ri4, ri5]
  intro ⟨i, hi, hm, hok⟩
  simp -dsimp -implicitDefEqProofs only [go_sem, ↓reduceIte, reduceCtorEq, rn1, rn2, rn3, rn4, rn5, rn6, rn7, ri1, ri2, ri3, ri4, ri5]
  have fin : (i = l.length ∨ i = 10) → decide ((l.length : Int) ≤ 10) = fewL l := fun h => by
    unfold fewL
    rw [all_take h hok hm, Bool.true_and, decide_eq_decide]; omega
  refine ⟨fun hlt => ⟨fun h20 => ?_, fun h20 => fin (.inr (by omega))⟩, fun hge => fin (.inl (by omega))⟩
  have hil : i < l.length := by omega
  obtain ⟨x, hx⟩ : ∃ x, l[i]? = some x := ⟨_, List.getElem?_eq_getElem hil⟩
  have hw : IntKind.i64.wrap ((i : Int) + 1) = ((i + 1 : Nat) : Int) := by rw [wrap64] <;> omega
  simp -dsimp -implicitDefEqProofs only [hx, forall_eq', go_sem, ↓reduceIte, reduceCtorEq, rn1, rn2, rn3, rn4, rn5, rn6, rn7, ri1, ri2, ri3, ri4, ri5]
  refine ⟨by omega, hil, callP (rfewC_ok x) ?_⟩
  cases hf : fewC x with
  | false =>
    have hb : fewL l = false := by unfold fewL; rw [all_take_bad hx (by omega) hf]; rfl
    rw [hb]
    simp -dsimp -implicitDefEqProofs only [hf, go_sem, ↓reduceIte, reduceCtorEq, rn1, rn2, rn3, rn4, rn5, rn6, rn7, ri1, ri2, ri3, ri4, ri5]
  | true =>
    simp -dsimp -implicitDefEqProofs only [hf, go_sem, ↓reduceIte, reduceCtorEq, rn1, rn2, rn3, rn4, rn5, rn6, rn7, ri1, ri2, ri3, ri4, ri5]
    refine again ⟨i + 1, by omega, by omega, fun j y hj hy => ?_⟩ (by simp; omega) ?_
    · by_cases hji : j = i
      · subst hji; rw [hx] at hy; cases hy; exact hf
      · exact hok j y (by omega) hy
    · simp -dsimp -implicitDefEqProofs only [hw, go_sem, ↓reduceIte, reduceCtorEq, rn1, rn2, rn3, rn4, rn5, rn6, rn7, ri1, ri2, ri3, ri4, ri5]
theorem fewL_iff {l : List (List Kp)} (h : fewL l = true) : l.length ≤ 10 ∧ ∀ L ∈ l, Cz L := by
  unfold fewL at h
  simp only [Bool.and_eq_true, decide_eq_true_eq] at h
  refine ⟨h.2, fun L hL => ?_⟩
  have h1 := h.1
  rw [List.take_of_length_le (by omega), List.all_eq_true] at h1
  exact few_cz (h1 L hL)
def few23 (n : Nt) (l : List (List Kp)) (name token ca : Bs) : Bool := fewN n && fewL l && decide (name.length ≤ 200) && decide (token.length ≤ 200) && decide (ca.length ≤ 200)
theorem few23_iff {n : Nt} {l : List (List Kp)} {name token ca : Bs} (h : few23 n l name token ca = true) : fewN n = true ∧ l.length ≤ 10 ∧ (∀ L ∈ l, Cz L) ∧ name.length ≤ 200 ∧ token.length ≤ 200 ∧ ca.length ≤ 200 := by
  unfold few23 at h
  simp only [Bool.and_eq_true, decide_eq_true_eq] at h
  exact ⟨h.1.1.1.1, (fewL_iff h.1.1.1.2).1, (fewL_iff h.1.1.1.2).2, h.1.1.2, h.1.2, h.2⟩
theorem few23_ok (n : Nt) (l : List (List Kp)) (name token ca : Bs) : Meets Tryz.prog 13 [n.arg, (false, [vD (csD l)]), (false, [vS name]), (false, [vS token]), (false, [vS ca])] (rOne (vB (few23 n l name token ca))) := by
  refine meets Tryz.func13 rfl rfl Tryz.ntmps13 Tryz.results13 rfl ?_
  simp -dsimp -implicitDefEqProofs only [go_sem, ↓reduceIte, reduceCtorEq, rn1, rn2, rn3, rn4, rn5, rn6, rn7, ri1, ri2, ri3, ri4, ri5]
  refine callP (rfewN_ok n) ?_
  simp -dsimp -implicitDefEqProofs only [go_sem, ↓reduceIte, reduceCtorEq, rn1, rn2, rn3, rn4, rn5, rn6, rn7, ri1, ri2, ri3, ri4, ri5]
  refine callP (rfewL_ok l) ?_
  unfold few23
  simp -dsimp -implicitDefEqProofs only [go_sem, ↓reduceIte, reduceCtorEq, rn1, rn2, rn3, rn4, rn5, rn6, rn7, ri1, ri2, ri3, ri4, ri5]
  repeat' (first | with_reducible apply And.intro | with_reducible intro _ | with_reducible exact drawn (by kernel_rfl) | omega)
  all_goals simp_all
  · rw [decide_eq_true (show name.length ≤ 200 by omega), decide_eq_true (show token.length ≤ 200 by omega), Bool.true_and, Bool.true_and, decide_eq_decide]
    omega
  all_goals
    intros
    omega
def emN (i : Nat) : List (List Kp) := List.replicate i []
theorem emN_step (i : Nat) : (emN (i + 1)).map rowC = (emN i).map rowC ++ [rowC []] := by
  unfold emN
  rw [List.replicate_succ', List.map_append]; rfl
theorem emN_len (i : Nat) : (emN i).length = i := List.length_replicate
def emptyL (n : Int) : List (List Kp) := emN (min n.toNat 20)
structure EmInv (n : Int) where
  i : Nat
  le : i ≤ min n.toNat 20
theorem empty_len (n : Int) : (emptyL n).length ≤ 20 := by
  unfold emptyL
  rw [emN_len]
  omega
theorem empty_cz (n : Int) : ∀ L ∈ emptyL n, Cz L := fun L hL => by
  rw [List.eq_of_mem_replicate hL]
  exact nil_cz
theorem empty23_ok (n : Int) : Meets Tryz.prog 30 [(false, [vI n])] (rOne (vD (csD (emptyL n)))) := by
  refine meetsF Tryz.func30 rfl rfl Tryz.ntmps30 Tryz.results30 rfl ?_
  simp -dsimp -implicitDefEqProofs only [go_sem, ↓reduceIte, reduceCtorEq, rn1, rn2, rn3, rn4, rn5, rn6, rn7, ri1, ri2, ri3, ri4, ri5]
  refine vownE 3 41 rfl ?_
  simp -dsimp -implicitDefEqProofs only [go_sem, ↓reduceIte, reduceCtorEq, rn1, rn2, rn3, rn4, rn5, rn6, rn7, ri1, ri2, ri3, ri4, ri5]
  refine vforT sitOk 400 3 (ι := EmInv n) (fun v => ⟨19, [(4, aI v.i), (3, aO 400), (0, aI n)], [(400, some (.row 1 41 ((emN v.i).map rowC) true))], 401⟩) (fun v => 20 - v.i) ⟨0, by omega⟩ ?_ ?_
  · simp -dsimp -implicitDefEqProofs only [go_sem, ↓reduceIte, reduceCtorEq, rn1, rn2, rn3, rn4, rn5, rn6, rn7, ri1, ri2, ri3, ri4, ri5]
    rfl
  intro ⟨i, hi⟩
  have hw : IntKind.i64.wrap ((i : Int) + 1) = ((i + 1 : Nat) : Int) := by rw [wrap64] <;> omega
  have hst := emN_step i
  have hsl := emN_len i
  have fin : i = min n.toNat 20 → emN i = emptyL n := fun h => by rw [h]; rfl
  simp -dsimp -implicitDefEqProofs only [go_sem, ↓reduceIte, reduceCtorEq, rn1, rn2, rn3, rn4, rn5, rn6, rn7, ri1, ri2, ri3, ri4, ri5]
  refine ⟨fun hlt => ⟨fun h20 => ?_, fun h20 => ?_⟩, fun hge => ?_⟩
  · refine ⟨by omega, againT 400 3 ⟨i + 1, by omega⟩ (by simp; omega) ?_⟩
    simp -dsimp -implicitDefEqProofs only [hw, hst, go_sem, ↓reduceIte, reduceCtorEq, rn1, rn2, rn3, rn4, rn5, rn6, rn7, ri1, ri2, ri3, ri4, ri5]
    rfl
  · refine retF [400] ?_
    simp -dsimp -implicitDefEqProofs only [fin (by omega), go_sem, ↓reduceIte, reduceCtorEq, rn1, rn2, rn3, rn4, rn5, rn6, rn7, ri1, ri2, ri3, ri4, ri5]
  · refine retF [400] ?_
    simp -dsimp -implicitDefEqProofs only [fin (by omega), go_sem, ↓reduceIte, reduceCtorEq, rn1, rn2, rn3, rn4, rn5, rn6, rn7, ri1, ri2, ri3, ri4, ri5]
end Go.Proofs.YtolpobgfcokoaaaGreatDoor
namespace Go.Proofs.YtolpobgfcokoaaaGreatDoor
open Go.Eng
set_option linter.unusedSimpArgs false
set_option maxRecDepth 10000

def lwR1 : Rec := ⟨[95, 115, 101, 97, 108, 46, 97, 46, 98], 1, [116, 111, 107], 9⟩
def lwR2 : Rec := ⟨[98], 2, [120], 9⟩
def lwZ : Zn := ⟨[], [lwR1, lwR2]⟩
def lwN : Nt := ⟨[⟨0, [lwZ]⟩], 3, [], []⟩
def lwAb : Bs := [97, 46, 98]
def lwT : Bs := [116, 111, 107]
def lw3 : List (List Kp) := [[], [], []]
theorem lw_e1 : lookE lwN lw3 4 lwAb lwT [120] 3 = 0 := by kernel_rfl
theorem lw_s1 : lookSn lwN lw3 4 lwAb lwT [120] 3 = ⟨lwAb, 4, [true, true, true]⟩ := by kernel_rfl
theorem lw_x1 : (lookX lwN lw3 4 lwAb lwT [120] 3).length = 3 := by kernel_rfl
theorem lw_e2 : lookE lwN lw3 4 lwAb lwT [121] 1 = 230 := by kernel_rfl
theorem lw_s2 : lookSn lwN lw3 4 lwAb lwT [121] 1 = ⟨lwAb, 4, [false, false, false]⟩ := by kernel_rfl
theorem lw_e3 : lookE lwN lw3 4 lwAb [116] [120] 1 = 230 := by kernel_rfl
theorem lw_s3 : lookSn lwN lw3 4 lwAb [116] [120] 1 = ⟨lwAb, 4, [false, false, false]⟩ := by kernel_rfl
theorem lw_e4 : lookE lwN lw3 4 lwAb lwT [120] 4 = 1 := by kernel_rfl
theorem lw_c1 : (caaV lwN 0 [] 4 [98] [120]).Y = true ∧ (caaV lwN 0 [] 4 [98] [120]).E = 0 := ⟨by kernel_rfl, by kernel_rfl⟩
theorem lw_c2 : (caaV lwN 0 [] 4 [98] [121]).Y = false ∧ (caaV lwN 0 [] 4 [98] [121]).E = 0 := ⟨by kernel_rfl, by kernel_rfl⟩
theorem lw_c3 : (caaV lwN 0 [] 4 [99] [121]).Y = true ∧ (caaV lwN 0 [] 4 [99] [121]).E = 0 := ⟨by kernel_rfl, by kernel_rfl⟩
theorem lw_sz : Sz lwN := by
  refine sz_of ?_ ?_ ?_
  all_goals first
    | kernel_rfl
    | (simp [lwN]; done)
theorem lw_cz : ∀ L ∈ lw3, Cz L := fun L hL => by
  simp [lw3] at hL
  rw [hL]; exact nil_cz
set_option maxHeartbeats 4000000 in
theorem live23_ok : Meets Tryz.prog 12 [] (rOne (vB true)) := by
  have hz := lw_sz
  have l1 := look23_ok lwN hz lw3 (by decide) lw_cz 4 lwAb (by decide) lwT [120] 3
  rw [lw_e1, lw_s1] at l1
  have l2 := look23_ok lwN hz lw3 (by decide) lw_cz 4 lwAb (by decide) lwT [121] 1
  rw [lw_e2, lw_s2] at l2
  have l3 := look23_ok lwN hz lw3 (by decide) lw_cz 4 lwAb (by decide) [116] [120] 1
  rw [lw_e3, lw_s3] at l3
  have l4 := look23_ok lwN hz lw3 (by decide) lw_cz 4 lwAb (by decide) lwT [120] 4
  rw [lw_e4] at l4
  have c1 := caa23_ok lwN hz 0 [] nil_cz 4 [98] [120]
  rw [lw_c1.1, lw_c1.2] at c1
  have c2 := caa23_ok lwN hz 0 [] nil_cz 4 [98] [121]
  rw [lw_c2.1, lw_c2.2] at c2
  have c3 := caa23_ok lwN hz 0 [] nil_cz 4 [99] [121]
  rw [lw_c3.1, lw_c3.2] at c3
  have hx := lw_x1
  have v1 := votes23_ok ⟨lwAb, 4, [true, true, true]⟩ (by decide)
  have v2 := votes23_ok ⟨lwAb, 4, [false, false, false]⟩ (by decide)
  rw [show votesN [true, true, true] = 3 from by kernel_rfl] at v1
  rw [show votesN [false, false, false] = 0 from by kernel_rfl] at v2
  have a1 := at23_ok lwAb (by decide)
  rw [show atN lwAb = [95, 115, 101, 97, 108, 46, 97, 46, 98] from by kernel_rfl] at a1
  have ht1 : Int.toNat 1 = 1 := rfl
  have ht2 : Int.toNat 2 = 2 := rfl
  clear hz
  refine meets Tryz.func12 rfl rfl Tryz.ntmps12 Tryz.results12 rfl ?_
  simp -dsimp -implicitDefEqProofs only [go_sem, ↓reduceIte, reduceCtorEq, rn1, rn2, rn3, rn4, rn5, rn6, rn7, ri1, ri2, ri3, ri4, ri5]
  refine callP l1 ?_
  simp -dsimp -implicitDefEqProofs only [hx, go_sem, ↓reduceIte, reduceCtorEq, rn1, rn2, rn3, rn4, rn5, rn6, rn7, ri1, ri2, ri3, ri4, ri5]
  refine callP l2 ?_
  simp -dsimp -implicitDefEqProofs only [hx, go_sem, ↓reduceIte, reduceCtorEq, rn1, rn2, rn3, rn4, rn5, rn6, rn7, ri1, ri2, ri3, ri4, ri5]
  refine callP l3 ?_
  simp -dsimp -implicitDefEqProofs only [hx, go_sem, ↓reduceIte, reduceCtorEq, rn1, rn2, rn3, rn4, rn5, rn6, rn7, ri1, ri2, ri3, ri4, ri5]
  refine callP l4 ?_
  simp -dsimp -implicitDefEqProofs only [hx, go_sem, ↓reduceIte, reduceCtorEq, rn1, rn2, rn3, rn4, rn5, rn6, rn7, ri1, ri2, ri3, ri4, ri5]
  refine callP c1 ?_
  simp -dsimp -implicitDefEqProofs only [hx, go_sem, ↓reduceIte, reduceCtorEq, rn1, rn2, rn3, rn4, rn5, rn6, rn7, ri1, ri2, ri3, ri4, ri5]
  refine callP c2 ?_
  simp -dsimp -implicitDefEqProofs only [hx, go_sem, ↓reduceIte, reduceCtorEq, rn1, rn2, rn3, rn4, rn5, rn6, rn7, ri1, ri2, ri3, ri4, ri5]
  refine callP c3 ?_
  clear l1 l2 l3 l4 c1 c2 c3
  simp -dsimp -implicitDefEqProofs only [hx, go_sem, ↓reduceIte, reduceCtorEq, rn1, rn2, rn3, rn4, rn5, rn6, rn7, ri1, ri2, ri3, ri4, ri5]
  refine callP v1 ?_
  have hab : lwAb = [97, 46, 98] := rfl
  have hx2 : ((lookX lwN lw3 4 [97, 46, 98] lwT [120] 3).length : Int) = 3 := congrArg Nat.cast lw_x1
  simp -dsimp -implicitDefEqProofs only [hx, hx2, hab, List.map_cons, List.map_nil, List.length_cons, List.length_nil, go_sem, ↓reduceIte, reduceCtorEq, rn1, rn2, rn3, rn4, rn5, rn6, rn7, ri1, ri2, ri3, ri4, ri5]
  refine callP v2 ?_
  simp -dsimp -implicitDefEqProofs only [hx, go_sem, ↓reduceIte, reduceCtorEq, rn1, rn2, rn3, rn4, rn5, rn6, rn7, ri1, ri2, ri3, ri4, ri5]
  refine callP v2 ?_
  simp -dsimp -implicitDefEqProofs only [hx, go_sem, ↓reduceIte, reduceCtorEq, rn1, rn2, rn3, rn4, rn5, rn6, rn7, ri1, ri2, ri3, ri4, ri5]
  refine callP a1 ?_
  simp -dsimp -implicitDefEqProofs only [hx, go_sem, ↓reduceIte, reduceCtorEq, rn1, rn2, rn3, rn4, rn5, rn6, rn7, ri1, ri2, ri3, ri4, ri5]
end Go.Proofs.YtolpobgfcokoaaaGreatDoor
namespace Go.Proofs.YtolpobgfcokoaaaGreatDoor
open Go.Eng
set_option linter.unusedSimpArgs false
set_option maxRecDepth 10000

theorem find_nil {n : Nt} {seen now : Int} {name : Bs} {k : Int} (h0 : ¬ findE n seen [] now name k = 0) : findL n seen [] now name k = [] := by
  cases hok : okF (findE n seen [] now name k) with
  | false => exact (find_bad' hok).1
  | true =>
    have g := find_good hok
    obtain ⟨m1, m2, _⟩ := find_miss g (by unfold heldV; rw [if_pos (show chkC [] = 0 from rfl)]; rfl)
    rw [m2]
    have hwo := wayV_ok n seen name k
    rcases hwo.kind with h | h | h
    · exact absurd (m1.trans h) h0
    · rw [hwo.lost h]; rfl
    · rw [hwo.none h]
theorem stands23_ok (n : Nt) (hz : Sz n) (now : Int) (name token : Bs) : Meets Tryz.prog 31 [n.arg, (false, [vI now]), (false, [vS name]), (false, [vS token])] (rOne (vB (standsB n now name token))) := by
  have hll := findL_len n (-1) nil_cz now name 1
  refine meets Tryz.func31 rfl rfl Tryz.ntmps31 Tryz.results31 rfl ?_
  simp -dsimp -implicitDefEqProofs only [go_sem, ↓reduceIte, reduceCtorEq, rn1, rn2, rn3, rn4, rn5, rn6, rn7, ri1, ri2, ri3, ri4, ri5]
  refine callP (find14_ok n hz (-1) [] nil_cz now name 1) ?_
  by_cases h0 : findE n (-1) [] now name 1 = 0
  · have hs : standsB n now name token = hasB (findL n (-1) [] now name 1) token := by unfold standsB; rw [decide_eq_true h0, Bool.true_and]
    rw [hs]
    simp -dsimp -implicitDefEqProofs only [h0, go_sem, ↓reduceIte, reduceCtorEq, rn1, rn2, rn3, rn4, rn5, rn6, rn7, ri1, ri2, ri3, ri4, ri5]
    generalize findL n (-1) [] now name 1 = l at *
    refine vfor sitOk (ι := HsInv l token) (fun w => ⟨39, [(12, aI w.i), (9, aD (recsD l)), (11, aI 0), (3, aS token)], [], 400⟩) (fun w => l.length - w.i) ⟨0, by omega, fun j x hj => by omega⟩ ?_ ?_
    · simp -dsimp -implicitDefEqProofs only [go_sem, ↓reduceIte, reduceCtorEq, rn1, rn2, rn3, rn4, rn5, rn6, rn7, ri1, ri2, ri3, ri4, ri5]
    intro ⟨i, hi, hno⟩
    simp -dsimp -implicitDefEqProofs only [go_sem, ↓reduceIte, reduceCtorEq, rn1, rn2, rn3, rn4, rn5, rn6, rn7, ri1, ri2, ri3, ri4, ri5]
    refine ⟨fun hlt => ?_, fun hge => ?_⟩
    · have hil : i < l.length := by omega
      obtain ⟨x, hx⟩ : ∃ x, l[i]? = some x := ⟨_, List.getElem?_eq_getElem hil⟩
      have hw := wrapS hil (by omega)
      simp -dsimp -implicitDefEqProofs only [hx, forall_eq', hw, go_sem, ↓reduceIte, reduceCtorEq, rn1, rn2, rn3, rn4, rn5, rn6, rn7, ri1, ri2, ri3, ri4, ri5]
      refine ⟨by omega, hil, ?_⟩
      by_cases hv : x.V = token
      · have hb := has_some (v := token) hx (by simp [hv])
        rw [hb]
        simp -dsimp -implicitDefEqProofs only [hv, go_sem, ↓reduceIte, reduceCtorEq, rn1, rn2, rn3, rn4, rn5, rn6, rn7, ri1, ri2, ri3, ri4, ri5]
      · simp -dsimp -implicitDefEqProofs only [hv, go_sem, ↓reduceIte, reduceCtorEq, rn1, rn2, rn3, rn4, rn5, rn6, rn7, ri1, ri2, ri3, ri4, ri5]
        refine again ⟨i + 1, by omega, has_go hx (by simp [hv]) hno⟩ (by simp; omega) ?_
        simp -dsimp -implicitDefEqProofs only [hw, go_sem, ↓reduceIte, reduceCtorEq, rn1, rn2, rn3, rn4, rn5, rn6, rn7, ri1, ri2, ri3, ri4, ri5]
    · have hil : i = l.length := by omega
      subst hil
      rw [has_none hno]
  · have hs : standsB n now name token = false := by unfold standsB; rw [decide_eq_false h0, Bool.false_and]
    have hnil : findL n (-1) [] now name 1 = [] := find_nil h0
    rw [hs]
    simp -dsimp -implicitDefEqProofs only [h0, hnil, go_sem, ↓reduceIte, reduceCtorEq, rn1, rn2, rn3, rn4, rn5, rn6, rn7, ri1, ri2, ri3, ri4, ri5]
    refine vfor sitOk (ι := Unit) (fun _ => ⟨39, [(12, aI 0), (9, aD (recsD []))], [], 400⟩) (fun _ => 0) () ?_ ?_
    · simp -dsimp -implicitDefEqProofs only [go_sem, ↓reduceIte, reduceCtorEq, rn1, rn2, rn3, rn4, rn5, rn6, rn7, ri1, ri2, ri3, ri4, ri5]
    intro _
    simp -dsimp -implicitDefEqProofs only [go_sem, ↓reduceIte, reduceCtorEq, rn1, rn2, rn3, rn4, rn5, rn6, rn7, ri1, ri2, ri3, ri4, ri5]
end Go.Proofs.YtolpobgfcokoaaaGreatDoor
namespace Go.Proofs.YtolpobgfcokoaaaGreatDoor
open Go.Eng
set_option linter.unusedSimpArgs false
set_option maxRecDepth 10000

theorem arg_caches (ds : List D) : argC Tryz.prog 27 ds = (false, ds.map .d) := by
  unfold argC; rw [show isStruct Tryz.prog 27 = false from by kernel_rfl]
theorem arg_seen (ds : List D) : argC Tryz.prog 32 ds = (true, ds.map .d) := by
  unfold argC; rw [show isStruct Tryz.prog 32 = true from by kernel_rfl]
theorem read_caches {ds : List D} (h : shpG tys 10 27 ds) : ∃ l : List (List Kp), ds = [csD l] := by
  simp -dsimp -implicitDefEqProofs only [shpG, tileG, go_sem] at h
  obtain ⟨rows, rfl, _, hrows⟩ := h
  obtain ⟨l, rfl⟩ := read_rows (cells := rowC) fun r hr => by
    obtain ⟨_, _, ⟨rl, rfl, _, hl⟩, rfl, rfl⟩ := hrows r hr
    obtain ⟨L, rfl⟩ := read_rows (cells := Kp.cells) fun r hr => by
      obtain ⟨_, _, ⟨s, rfl, _⟩, rfl, _, _, ⟨b, rfl, _⟩, rfl, _, _, ⟨rr, rfl, _, hrr⟩, rfl, _, _, ⟨u, rfl, _⟩, rfl, rfl⟩ := hl r hr
      obtain ⟨n, rfl⟩ := bytes_all s
      obtain ⟨R, rfl⟩ := read_rows (cells := Rec.cells) fun r hr => by
        obtain ⟨_, _, ⟨a, rfl, _⟩, rfl, _, _, ⟨b, rfl, _⟩, rfl, _, _, ⟨c, rfl, _⟩, rfl, _, _, ⟨d, rfl, _⟩, rfl, rfl⟩ := hrr r hr
        obtain ⟨l, rfl⟩ := bytes_all a
        obtain ⟨m, rfl⟩ := bytes_all c
        exact ⟨⟨l, b, m, d⟩, rfl⟩
      exact ⟨⟨n, b, R, u⟩, rfl⟩
    exact ⟨L, rfl⟩
  exact ⟨l, rfl⟩
theorem read_seen {ds : List D} (h : shpG tys 10 32 ds) : ∃ s : Sn, ds = [dT s.N, dI s.A, bsD s.V] ∧ s.V.length ≤ 9223372036854775807 := by
  simp -dsimp -implicitDefEqProofs only [shpG, tileG, go_sem] at h
  obtain ⟨_, _, ⟨s, rfl, _⟩, rfl, _, _, ⟨a, rfl, _⟩, rfl, _, _, ⟨rows, rfl, hlen, hrows⟩, rfl, rfl⟩ := h
  obtain ⟨n, rfl⟩ := bytes_all s
  obtain ⟨V, rfl⟩ := read_rows (cells := rowB) fun r hr => by
    obtain ⟨b, rfl⟩ := hrows r hr
    exact ⟨b, rfl⟩
  rw [List.length_map] at hlen
  exact ⟨⟨n, a, V⟩, rfl, hlen⟩
end Go.Proofs.YtolpobgfcokoaaaGreatDoor
