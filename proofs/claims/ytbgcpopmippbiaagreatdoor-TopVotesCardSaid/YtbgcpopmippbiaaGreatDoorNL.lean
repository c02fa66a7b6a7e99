/- Plain laws of vantage points: who is not redirected votes as the straight view has it. Plain laws of vantage points: fewer are redirected than have to vote. -/
import Derived.Test.YtbgcpopmippbiaaGreatDoorNJ
namespace Go.Proofs.YtbgcpopmippbiaaGreatDoor
open Go.Eng
set_option linter.unusedSimpArgs false
set_option maxRecDepth 10000

/-- Does a text stand at a name? -/
def standsB (n : Nt) (now : Int) (name token : Bs) : Bool := decide (findE n (-1) [] now name 1 = 0) && hasB (findL n (-1) [] now name 1) token
end Go.Proofs.YtbgcpopmippbiaaGreatDoor
namespace Go.Proofs.YtbgcpopmippbiaaGreatDoor
open Go.Eng
set_option linter.unusedSimpArgs false
set_option maxRecDepth 10000

theorem empty_votes {n : Nt} {now : Int} {name token ca : Bs} {m i : Nat} (hi : i < m) : (lookVs n (List.replicate m []) now name token ca)[i]? = some (voteV n (i : Int) [] now name token ca) :=
  lookVs_at (by rw [List.getElem?_replicate, if_pos hi])
end Go.Proofs.YtbgcpopmippbiaaGreatDoor
