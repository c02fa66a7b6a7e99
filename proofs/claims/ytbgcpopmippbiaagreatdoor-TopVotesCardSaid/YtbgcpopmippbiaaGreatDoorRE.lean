/- The document's net: address, text, find, ahead, servers, bends, clocks, Check. The document's net: servers. The document's net: text, bends, clocks. -/
import Derived.Test.YtbgcpopmippbiaaGreatDoorRD
namespace Go.Proofs.YtbgcpopmippbiaaGreatDoor
open Go.Eng
set_option linter.unusedSimpArgs false
set_option maxRecDepth 10000

def fitA (a : Int) (s : Sv) : Bool := koI.cmp (kS s) a == 0
/-- Where a server stands. -/
def rfI (n : Nt) (a : Int) : Int := match n.V.findIdx? (fitA a) with
  | some i => (i : Nat)
  | none => -1
def aheadN (a b : Bn) : Bool := decide (koP.cmp (kB a) (kB b) < 0)
end Go.Proofs.YtbgcpopmippbiaaGreatDoor
namespace Go.Proofs.YtbgcpopmippbiaaGreatDoor
open Go.Eng
set_option linter.unusedSimpArgs false
set_option maxRecDepth 10000

abbrev oS : Sv → Sv → Int := fun x y => koI.cmp (kS x) (kS y)
abbrev oZ : Zn → Zn → Int := fun x y => koS.cmp (kZ x) (kZ y)
/-- A server by itself and by the one ahead, but for its zones. -/
def headAt (l : List Sv) (i : Nat) : Bool := risesAt oS (fun s => addrB s.A) l i
theorem next_at {α : Type} {ord : α → α → Int} {right : α → Bool} {l : List α} {i : Nat} (hok : ∀ j, j < i → risesAt ord right l j = true) (h : risesAt ord right l i = true) : ∀ j, j < i + 1 → risesAt ord right l j = true := fun j hj => by
  by_cases hji : j = i
  · rw [hji]; exact h
  · exact hok j (by omega)
end Go.Proofs.YtbgcpopmippbiaaGreatDoor
namespace Go.Proofs.YtbgcpopmippbiaaGreatDoor
open Go.Eng
set_option linter.unusedSimpArgs false
set_option maxRecDepth 10000

abbrev oB : Bn → Bn → Int := fun x y => koP.cmp (kB x) (kB y)
abbrev oC : Ck → Ck → Int := fun x y => koS.cmp (kC x) (kC y)
end Go.Proofs.YtbgcpopmippbiaaGreatDoor
