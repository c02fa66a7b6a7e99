/- ResolveStands: the law's contract. -/
import Derived.Test.YtbgcpopmippbiaaGreatDoorQJ
namespace Go.Proofs.YtbgcpopmippbiaaGreatDoor
open Go.Eng
set_option linter.unusedSimpArgs false
set_option maxRecDepth 10000

structure SiInv (l : List Rec) where
  i : Nat
  le : i ≤ l.length
structure SaInv (a0 : Nat) where
  a : Nat
  b : Bool
  le : a ≤ 8
  ok : a0 < a → b = true
structure SzInv (a0 a k0 : Nat) (Z : List Zn) where
  k : Nat
  b : Bool
  le : k ≤ Z.length
  ok : a0 < a ∨ (a0 = a ∧ k0 < k) → b = true
structure SrInv (a0 a k0 k j0 : Nat) (R : List Rec) where
  j : Nat
  b : Bool
  le : j ≤ R.length
  ok : a0 < a ∨ (a0 = a ∧ (k0 < k ∨ (k0 = k ∧ j0 < j))) → b = true
end Go.Proofs.YtbgcpopmippbiaaGreatDoor
