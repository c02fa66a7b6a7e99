/- The document's net: Little, Few. The document's net: Same; small nets. -/
import Derived.Test.YtbgcpopmippbiaaGreatDoorRF
namespace Go.Proofs.YtbgcpopmippbiaaGreatDoor
open Go.Eng
set_option linter.unusedSimpArgs false
set_option maxRecDepth 10000

def shortR (r : Rec) : Bool := decide (r.N.length ≤ 200) && decide (r.V.length ≤ 200)
def littleB (z : Zn) : Bool := (z.R.take 100).all shortR && decide (z.R.length ≤ 80) && decide (z.A.length ≤ 200)
structure AllInv {α : Type} (m : Nat) (f : α → Bool) (l : List α) where
  i : Nat
  le : i ≤ l.length
  lm : i ≤ m
  ok : ∀ j x, j < i → l[j]? = some x → f x = true
def fewS (s : Sv) : Bool := (s.Z.take 20).all littleB && decide (s.Z.length ≤ 12)
def fewN (n : Nt) : Bool := (n.V.take 20).all fewS && decide (n.V.length ≤ 12) && decide (n.B.length ≤ 80) && decide (n.C.length ≤ 80)
end Go.Proofs.YtbgcpopmippbiaaGreatDoor
namespace Go.Proofs.YtbgcpopmippbiaaGreatDoor
open Go.Eng
set_option linter.unusedSimpArgs false
set_option maxRecDepth 10000

end Go.Proofs.YtbgcpopmippbiaaGreatDoor
