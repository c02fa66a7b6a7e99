/- ResolveStraight: the law's contract. -/
import Derived.Test.YtbgcpopmippbiaaGreatDoorNI
namespace Go.Proofs.YtbgcpopmippbiaaGreatDoor
open Go.Eng
set_option linter.unusedSimpArgs false
set_option maxRecDepth 10000

structure StInv (seen : Int) (l : List Int) where
  i : Nat
  le : i ≤ l.length
  no : ∀ j x, j < i → l[j]? = some x → x ≠ seen
end Go.Proofs.YtbgcpopmippbiaaGreatDoor
