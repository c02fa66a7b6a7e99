/- The document's net: Check, Server, Clock. The document's net: Server. -/
import Derived.Test.YtbgcpopmippbiaaGreatDoorRE
namespace Go.Proofs.YtbgcpopmippbiaaGreatDoor
open Go.Eng
set_option linter.unusedSimpArgs false
set_option maxRecDepth 10000

structure BgInv (n : Nt) where
  i : Nat
  le : i ≤ n.V.length
  no : ∀ j s, j < i → n.V[j]? = some s → bigZ s = false
end Go.Proofs.YtbgcpopmippbiaaGreatDoor
namespace Go.Proofs.YtbgcpopmippbiaaGreatDoor
open Go.Eng
set_option linter.unusedSimpArgs false
set_option maxRecDepth 10000

theorem chk_parts {n : Nt} (h : chkN n = 0) : 0 ≤ n.N ∧ n.N ≤ 8 ∧ svsOk n = true ∧ bnsOk n = true ∧ cksOk n = true ∧ manyB n = false := by
  unfold chkN at h
  split at h
  · rename_i hall
    simp only [Bool.and_eq_true] at hall
    obtain ⟨⟨⟨h1, h2⟩, h3⟩, h4⟩ := hall
    unfold seenB at h1
    simp only [Bool.and_eq_true, decide_eq_true_eq] at h1
    refine ⟨h1.1, h1.2, h2, h3, h4, ?_⟩
    cases hm : manyB n with
    | false => rfl
    | true => rw [hm] at h; cases h
  · cases h
theorem bns_parts {n : Nt} (h : bnsOk n = true) : (∀ b ∈ n.B, bendB n b = true) ∧ Ris koP kB n.B := rises_iff.1 h
/-- Where the server stands that is asked, the first i bends being looked at. -/
def atAt (n : Nt) (seen addr : Int) (i : Nat) : Int := match findK koP kB (n.B.take i) (seen, addr) with
  | some b => rfI n b.T
  | none => rfI n addr
structure RvInv (n : Nt) where
  i : Nat
  le : i ≤ n.B.length
end Go.Proofs.YtbgcpopmippbiaaGreatDoor
