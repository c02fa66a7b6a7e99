
/- ResolveStands: the law's contract. -/
import Derived.Test.YtolpobgfcokoaaaGreatDoorQF
namespace Go.Proofs.YtolpobgfcokoaaaGreatDoor
open Go.Eng
set_option linter.unusedSimpArgs false
set_option maxRecDepth 10000

theorem svF_addr {n : Nt} {a : Int} (h : chkN n = 0) (hs : (svF n a).isSome = true) : 0 ≤ a ∧ a < 8 := by
  obtain ⟨_, _, hv, _, _, _⟩ := chk_iff.1 h
  cases hf : svF n a with
  | none => rw [hf] at hs; cases hs
  | some s =>
    have h1 := find_some hf
    have h2 := (svs_parts hv).1 s h1.1
    unfold svB addrB at h2
    simp only [Bool.and_eq_true, decide_eq_true_eq] at h2
    have h3 : s.A = a := h1.2
    omega
/-- Where what is found stands. -/
theorem stands_law {n : Nt} {seen now : Int} {name : Bs} {k : Int} (h : findE n seen [] now name k = 0) : findL n seen [] now name k ≠ [] ∧ ∃ (a0 : Nat) (nm : Bs), a0 < 8 ∧ (∀ r ∈ findL n seen [] now name k, r.K = k ∧ r.N = nm ∧
    ∃ (k0 j0 : Nat) (z : Zn), (srvS n seen a0).Z[k0]? = some z ∧ z.R[j0]? = some r) := by
  have g := find_good (by rw [h]; rfl)
  have hn : heldV [] now name k = none := by
    unfold heldV
    rw [if_pos (show chkC [] = 0 from rfl)]
    rfl
  obtain ⟨m1, m2, _⟩ := find_miss g hn
  rw [h] at m1
  obtain ⟨w1, _, _, _, addr, nm, z, hz, hb, hL⟩ := (wayV_ok n seen name k).some m1.symm
  rw [m2]
  refine ⟨w1, ?_⟩
  obtain ⟨hs, _, _, hcn⟩ := srvB_iff.1 hb
  have ha := svF_addr hcn hs
  refine ⟨addr.toNat, nm, by omega, fun r hr => ?_⟩
  rw [hL] at hr
  have hm := mem_ofL hr
  obtain ⟨k0, hk0⟩ := List.mem_iff_getElem?.1 hz
  obtain ⟨j0, hj0⟩ := List.mem_iff_getElem?.1 hm.1
  have e : ((addr.toNat : Nat) : Int) = addr := by omega
  exact ⟨hm.2.2, hm.2.1, k0, j0, z, by rw [e]; exact hk0, hj0⟩
theorem rec_eqb (x y : Rec) : (x.N == y.N && (x.K == y.K && (x.V == y.V && x.L == y.L))) = decide (x = y) := by
  rw [Bool.eq_iff_iff]
  simp only [Bool.and_eq_true, beq_iff_eq, decide_eq_true_eq]
  cases x; cases y
  simp
structure SiInv (l : List Rec) where
  i : Nat
  le : i ≤ l.length
structure SaInv (a0 : Nat) where
  a : Nat
  b : Bool
  le : a ≤ 8
  ok : a0 < a → b = true
structure SzInv (a0 a k0 : Nat) (Z : List Zn) where
  k : Nat
  b : Bool
  le : k ≤ Z.length
  ok : a0 < a ∨ (a0 = a ∧ k0 < k) → b = true
structure SrInv (a0 a k0 k j0 : Nat) (R : List Rec) where
  j : Nat
  b : Bool
  le : j ≤ R.length
  ok : a0 < a ∨ (a0 = a ∧ (k0 < k ∨ (k0 = k ∧ j0 < j))) → b = true
end Go.Proofs.YtolpobgfcokoaaaGreatDoor
