
/- VantageLooks, VantageCaas: the laws' contracts. -/
import Derived.Test.YtolpobgfcokoaaaGreatDoorVO
open Nat renaming reduceLT → rn1, reduceLeDiff → rn2, reduceEqDiff → rn3, reduceAdd → rn4, reduceMul → rn5, reduceSub → rn6, reduceBEq → rn7
open Int renaming reduceLT → ri1, reduceLE → ri2, reduceEq → ri3, reduceBEq → ri4, reduceNeg → ri5
namespace Go.Proofs.YtolpobgfcokoaaaGreatDoor
open Go.Eng
set_option linter.unusedSimpArgs false
set_option maxRecDepth 10000

theorem vlooks_ok (n : Nt) (l : List (List Kp)) (now : Int) (name token ca : Bs) (need : Int) (hk : ∀ c ∈ n.C, -9223372036854775808 ≤ c.B ∧ c.B ≤ 9223372036854775807) (hw : ∀ c ∈ n.C, c.W.length ≤ 9223372036854775807) :
    Meets Tryz.prog 3 [n.arg, (false, [vD (csD l)]), (false, [vI now]), (false, [vS name]), (false, [vS token]), (false, [vS ca]), (false, [vI need])] (rOne (vB true)) := by
  refine meets Tryz.func3 rfl rfl Tryz.ntmps3 Tryz.results3 rfl ?_
  simp -dsimp -implicitDefEqProofs only [go_sem, ↓reduceIte, reduceCtorEq, rn1, rn2, rn3, rn4, rn5, rn6, rn7, ri1, ri2, ri3, ri4, ri5]
  refine callP live23_ok ?_
  simp -dsimp -implicitDefEqProofs only [go_sem, ↓reduceIte, reduceCtorEq, rn1, rn2, rn3, rn4, rn5, rn6, rn7, ri1, ri2, ri3, ri4, ri5]
  refine callP (few23_ok n l name token ca) ?_
  cases hf : few23 n l name token ca with
  | false => simp -dsimp -implicitDefEqProofs only [hf, go_sem, ↓reduceIte, reduceCtorEq, rn1, rn2, rn3, rn4, rn5, rn6, rn7, ri1, ri2, ri3, ri4, ri5]
  | true =>
    obtain ⟨hfn, hl, hc, hn, _, _⟩ := few23_iff hf
    have hz := sz_of hfn hk hw
    have hsl := look_len n (l := l) (now := now) (name := name) (token := token) (ca := ca) (need := need)
    have hxc := look_cz n (l := l) (now := now) (name := name) (token := token) (ca := ca) (need := need)
    simp -dsimp -implicitDefEqProofs only [hf, go_sem, ↓reduceIte, reduceCtorEq, rn1, rn2, rn3, rn4, rn5, rn6, rn7, ri1, ri2, ri3, ri4, ri5]
    refine callP (look23_ok n hz l (by omega) hc now name (by omega) token ca need) ?_
    simp -dsimp -implicitDefEqProofs only [go_sem, ↓reduceIte, reduceCtorEq, rn1, rn2, rn3, rn4, rn5, rn6, rn7, ri1, ri2, ri3, ri4, ri5]
    refine callP (rlook23_ok n hz l (by omega) hc now name (by omega) token ca need) ?_
    simp -dsimp -implicitDefEqProofs only [go_sem, ↓reduceIte, reduceCtorEq, rn1, rn2, rn3, rn4, rn5, rn6, rn7, ri1, ri2, ri3, ri4, ri5]
    refine callP (rsn_ok (lookSn n l now name token ca need) (by have := hsl.1; omega)) ?_
    simp -dsimp -implicitDefEqProofs only [go_sem, ↓reduceIte, reduceCtorEq, rn1, rn2, rn3, rn4, rn5, rn6, rn7, ri1, ri2, ri3, ri4, ri5]
    refine callP (rcs_ok (lookX n l now name token ca need) (by have := hsl.2; omega) hxc) ?_
    simp -dsimp -implicitDefEqProofs only [go_sem, ↓reduceIte, reduceCtorEq, rn1, rn2, rn3, rn4, rn5, rn6, rn7, ri1, ri2, ri3, ri4, ri5]
theorem vcaas_ok (n : Nt) (seen : Int) (L : List Kp) (now : Int) (name ca : Bs) (s : Sn) (hsl : s.V.length ≤ 9223372036854775807) (hk : ∀ c ∈ n.C, -9223372036854775808 ≤ c.B ∧ c.B ≤ 9223372036854775807) (hw : ∀ c ∈ n.C, c.W.length ≤ 9223372036854775807) :
    Meets Tryz.prog 4 [n.arg, (false, [vI seen]), cacheA L, (false, [vI now]), (false, [vS name]), (false, [vS ca]), s.arg] (rOne (vB true)) := by
  refine meets Tryz.func4 rfl rfl Tryz.ntmps4 Tryz.results4 rfl ?_
  simp -dsimp -implicitDefEqProofs only [go_sem, ↓reduceIte, reduceCtorEq, rn1, rn2, rn3, rn4, rn5, rn6, rn7, ri1, ri2, ri3, ri4, ri5]
  refine callP live23_ok ?_
  simp -dsimp -implicitDefEqProofs only [go_sem, ↓reduceIte, reduceCtorEq, rn1, rn2, rn3, rn4, rn5, rn6, rn7, ri1, ri2, ri3, ri4, ri5]
  refine callP (few23_ok n [L] name [] ca) ?_
  cases hf : few23 n [L] name [] ca with
  | false => simp -dsimp -implicitDefEqProofs only [hf, go_sem, ↓reduceIte, reduceCtorEq, rn1, rn2, rn3, rn4, rn5, rn6, rn7, ri1, ri2, ri3, ri4, ri5]
  | true =>
    obtain ⟨hfn, _, hc, hn, _, _⟩ := few23_iff hf
    have hz := sz_of hfn hk hw
    have hcL := hc L (by simp)
    have hxz := caa_cz (n := n) (seen := seen) (now := now) (ca := ca) hcL name
    simp -dsimp -implicitDefEqProofs only [hf, go_sem, ↓reduceIte, reduceCtorEq, rn1, rn2, rn3, rn4, rn5, rn6, rn7, ri1, ri2, ri3, ri4, ri5]
    refine callP (caa23_ok n hz seen L hcL now name ca) ?_
    simp -dsimp -implicitDefEqProofs only [go_sem, ↓reduceIte, reduceCtorEq, rn1, rn2, rn3, rn4, rn5, rn6, rn7, ri1, ri2, ri3, ri4, ri5]
    refine callP (rcaa23_ok n hz seen L hcL now name ca) ?_
    simp -dsimp -implicitDefEqProofs only [go_sem, ↓reduceIte, reduceCtorEq, rn1, rn2, rn3, rn4, rn5, rn6, rn7, ri1, ri2, ri3, ri4, ri5]
    refine callP (rsame14_ok _ _ (by have := hxz.l; omega) (fun x hx => by have := hxz.r x hx; omega)) ?_
    simp -dsimp -implicitDefEqProofs only [decide_true, go_sem, ↓reduceIte, reduceCtorEq, rn1, rn2, rn3, rn4, rn5, rn6, rn7, ri1, ri2, ri3, ri4, ri5]
    refine callP (at23_ok name (by omega)) ?_
    simp -dsimp -implicitDefEqProofs only [go_sem, ↓reduceIte, reduceCtorEq, rn1, rn2, rn3, rn4, rn5, rn6, rn7, ri1, ri2, ri3, ri4, ri5]
    refine callP (rat23_ok name (by omega)) ?_
    simp -dsimp -implicitDefEqProofs only [go_sem, ↓reduceIte, reduceCtorEq, rn1, rn2, rn3, rn4, rn5, rn6, rn7, ri1, ri2, ri3, ri4, ri5]
    refine callP (votes23_ok s hsl) ?_
    simp -dsimp -implicitDefEqProofs only [go_sem, ↓reduceIte, reduceCtorEq, rn1, rn2, rn3, rn4, rn5, rn6, rn7, ri1, ri2, ri3, ri4, ri5]
    refine callP (rvotes23_ok s hsl) ?_
    simp -dsimp -implicitDefEqProofs only [go_sem, ↓reduceIte, reduceCtorEq, rn1, rn2, rn3, rn4, rn5, rn6, rn7, ri1, ri2, ri3, ri4, ri5]
    exact drawn (by kernel_rfl)
end Go.Proofs.YtolpobgfcokoaaaGreatDoor
