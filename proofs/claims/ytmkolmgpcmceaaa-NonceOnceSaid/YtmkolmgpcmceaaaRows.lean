/-
  No cell of these rows narrows 'for every input' (looked for: loops, veiled, ifaces, maps, wideKeys, modest, calm, conditions, laid).
  DERIVED. THE GIVEN ROWS OF THIS SEAT. 8 by the template 'for every input the law returns true; each argument reads behind the call as it read before'; 0 by the template 'total and deterministic' (their statements: YtmkolmgpcmceaaaTotals.lean).
  GIVEN WITH THE SEED: the statements are not yours to turn. If you find one false, say at which input.
  Laid BY PROGRAM, IN A SANDBOX (cutbox-rows.mjs): the forced cells as the released guide's own fill.sh prints them over the translation 1c270d7cb5e5c36d… (all of the seat's roots in one cut). By AI agents, Wed Nov 11 2026. No macro, syntax, notation, axiom, sorry.
-/
import Derived.Test.YtmkolmgpcmceaaaChecked
import GoSem.Claim
import GoSem.ClaimJoined
import GoSem.ClaimMapViews
import Derived.JoinedTies
import Derived.KernelRfl
namespace Go.Proofs.Ytmkolmgpcmceaaa
/- THE CELL 'sum', in the pinned program and in every row, IS THE sha256 OF THE DUMP (.gsa) THAT YtmkolmgpcmceaaaProg.lean LOADS. Nothing in Lean hashes anything: it is a label: what it is worth is what the hold of that sum in a sandbox is worth. -/
noncomputable def Try.pinned : Pinned := { name := "ytmkolmgpcmceaaa", sum := "1c270d7cb5e5c36dcd948be99ee06c44b8c902d312bd41a2eb4725ee5daa1d60", checked := Try.checked }
namespace Rows
def none {H : Type} : Left H := { results := [], args := [] }

/-- 'greatseallaw21.NonceChecks': WHATEVER THE INPUT: true; the input reads as it did. -/
def nonceChecksSpec : ChangeSpec := { name := "nonceChecks", fn := fun _ => fun
  | [d1, d2] => { results := [.lit (.bool true)], args := [d1, d2] }
  | _ => none }
def nonceChecksRow : OpenClaim := { program := "ytmkolmgpcmceaaa", sum := "1c270d7cb5e5c36dcd948be99ee06c44b8c902d312bd41a2eb4725ee5daa1d60", func := "greatseal/greatseallaw21.NonceChecks", spec := "nonceChecks", unfollowed := true, recurses := true, apart := false }
def NonceChecksSaid : Prop := nonceChecksRow.holds Try.pinned (OpenSpec.ofChange nonceChecksSpec)

/-- ITS FALSE NEIGHBOUR: 'it returns false'. Refute it at one input. -/
def nonceChecksWrong : ChangeSpec := { name := "nonceChecks", fn := fun _ => fun
  | [d1, d2] => { results := [.lit (.bool false)], args := [d1, d2] }
  | _ => none }
def NonceChecksWrongFalsely : Prop := nonceChecksRow.holds Try.pinned (OpenSpec.ofChange nonceChecksWrong)

/-- 'greatseallaw21.NonceSteps': WHATEVER THE INPUT: true; the input reads as it did. -/
def nonceStepsSpec : ChangeSpec := { name := "nonceSteps", fn := fun _ => fun
  | [d1, d2, d3, d4] => { results := [.lit (.bool true)], args := [d1, d2, d3, d4] }
  | _ => none }
def nonceStepsRow : OpenClaim := { program := "ytmkolmgpcmceaaa", sum := "1c270d7cb5e5c36dcd948be99ee06c44b8c902d312bd41a2eb4725ee5daa1d60", func := "greatseal/greatseallaw21.NonceSteps", spec := "nonceSteps", unfollowed := true, recurses := true, apart := false }
def NonceStepsSaid : Prop := nonceStepsRow.holds Try.pinned (OpenSpec.ofChange nonceStepsSpec)

/-- ITS FALSE NEIGHBOUR: 'it returns false'. Refute it at one input. -/
def nonceStepsWrong : ChangeSpec := { name := "nonceSteps", fn := fun _ => fun
  | [d1, d2, d3, d4] => { results := [.lit (.bool false)], args := [d1, d2, d3, d4] }
  | _ => none }
def NonceStepsWrongFalsely : Prop := nonceStepsRow.holds Try.pinned (OpenSpec.ofChange nonceStepsWrong)

/-- 'greatseallaw21.NonceOnce': WHATEVER THE INPUT: true; the input reads as it did. -/
def nonceOnceSpec : ChangeSpec := { name := "nonceOnce", fn := fun _ => fun
  | [d] => { results := [.lit (.bool true)], args := [d] }
  | _ => none }
def nonceOnceRow : OpenClaim := { program := "ytmkolmgpcmceaaa", sum := "1c270d7cb5e5c36dcd948be99ee06c44b8c902d312bd41a2eb4725ee5daa1d60", func := "greatseal/greatseallaw21.NonceOnce", spec := "nonceOnce", unfollowed := true, recurses := true, apart := false }
def NonceOnceSaid : Prop := nonceOnceRow.holds Try.pinned (OpenSpec.ofChange nonceOnceSpec)

/-- ITS FALSE NEIGHBOUR: 'it returns false'. Refute it at one input. -/
def nonceOnceWrong : ChangeSpec := { name := "nonceOnce", fn := fun _ => fun
  | [d] => { results := [.lit (.bool false)], args := [d] }
  | _ => none }
def NonceOnceWrongFalsely : Prop := nonceOnceRow.holds Try.pinned (OpenSpec.ofChange nonceOnceWrong)

/-- 'greatseallaw21.NonceTold': WHATEVER THE INPUT: true; the input reads as it did. -/
def nonceToldSpec : ChangeSpec := { name := "nonceTold", fn := fun _ => fun
  | [d1, d2, d3, d4] => { results := [.lit (.bool true)], args := [d1, d2, d3, d4] }
  | _ => none }
def nonceToldRow : OpenClaim := { program := "ytmkolmgpcmceaaa", sum := "1c270d7cb5e5c36dcd948be99ee06c44b8c902d312bd41a2eb4725ee5daa1d60", func := "greatseal/greatseallaw21.NonceTold", spec := "nonceTold", unfollowed := true, recurses := true, apart := false }
def NonceToldSaid : Prop := nonceToldRow.holds Try.pinned (OpenSpec.ofChange nonceToldSpec)

/-- ITS FALSE NEIGHBOUR: 'it returns false'. Refute it at one input. -/
def nonceToldWrong : ChangeSpec := { name := "nonceTold", fn := fun _ => fun
  | [d1, d2, d3, d4] => { results := [.lit (.bool false)], args := [d1, d2, d3, d4] }
  | _ => none }
def NonceToldWrongFalsely : Prop := nonceToldRow.holds Try.pinned (OpenSpec.ofChange nonceToldWrong)

/-- 'greatseallaw21.NonceApart': WHATEVER THE INPUT: true; the input reads as it did. -/
def nonceApartSpec : ChangeSpec := { name := "nonceApart", fn := fun _ => fun
  | [d1, d2, d3, d4, d5] => { results := [.lit (.bool true)], args := [d1, d2, d3, d4, d5] }
  | _ => none }
def nonceApartRow : OpenClaim := { program := "ytmkolmgpcmceaaa", sum := "1c270d7cb5e5c36dcd948be99ee06c44b8c902d312bd41a2eb4725ee5daa1d60", func := "greatseal/greatseallaw21.NonceApart", spec := "nonceApart", unfollowed := true, recurses := true, apart := false }
def NonceApartSaid : Prop := nonceApartRow.holds Try.pinned (OpenSpec.ofChange nonceApartSpec)

/-- ITS FALSE NEIGHBOUR: 'it returns false'. Refute it at one input. -/
def nonceApartWrong : ChangeSpec := { name := "nonceApart", fn := fun _ => fun
  | [d1, d2, d3, d4, d5] => { results := [.lit (.bool false)], args := [d1, d2, d3, d4, d5] }
  | _ => none }
def NonceApartWrongFalsely : Prop := nonceApartRow.holds Try.pinned (OpenSpec.ofChange nonceApartWrong)

/-- 'greatseallaw21.NonceTrims': WHATEVER THE INPUT: true; the input reads as it did. -/
def nonceTrimsSpec : ChangeSpec := { name := "nonceTrims", fn := fun _ => fun
  | [d1, d2, d3, d4] => { results := [.lit (.bool true)], args := [d1, d2, d3, d4] }
  | _ => none }
def nonceTrimsRow : OpenClaim := { program := "ytmkolmgpcmceaaa", sum := "1c270d7cb5e5c36dcd948be99ee06c44b8c902d312bd41a2eb4725ee5daa1d60", func := "greatseal/greatseallaw21.NonceTrims", spec := "nonceTrims", unfollowed := true, recurses := true, apart := false }
def NonceTrimsSaid : Prop := nonceTrimsRow.holds Try.pinned (OpenSpec.ofChange nonceTrimsSpec)

/-- ITS FALSE NEIGHBOUR: 'it returns false'. Refute it at one input. -/
def nonceTrimsWrong : ChangeSpec := { name := "nonceTrims", fn := fun _ => fun
  | [d1, d2, d3, d4] => { results := [.lit (.bool false)], args := [d1, d2, d3, d4] }
  | _ => none }
def NonceTrimsWrongFalsely : Prop := nonceTrimsRow.holds Try.pinned (OpenSpec.ofChange nonceTrimsWrong)

/-- 'greatseallaw21.NonceBound': WHATEVER THE INPUT: true; the input reads as it did. -/
def nonceBoundSpec : ChangeSpec := { name := "nonceBound", fn := fun _ => fun
  | [d1, d2, d3] => { results := [.lit (.bool true)], args := [d1, d2, d3] }
  | _ => none }
def nonceBoundRow : OpenClaim := { program := "ytmkolmgpcmceaaa", sum := "1c270d7cb5e5c36dcd948be99ee06c44b8c902d312bd41a2eb4725ee5daa1d60", func := "greatseal/greatseallaw21.NonceBound", spec := "nonceBound", unfollowed := true, recurses := true, apart := false }
def NonceBoundSaid : Prop := nonceBoundRow.holds Try.pinned (OpenSpec.ofChange nonceBoundSpec)

/-- ITS FALSE NEIGHBOUR: 'it returns false'. Refute it at one input. -/
def nonceBoundWrong : ChangeSpec := { name := "nonceBound", fn := fun _ => fun
  | [d1, d2, d3] => { results := [.lit (.bool false)], args := [d1, d2, d3] }
  | _ => none }
def NonceBoundWrongFalsely : Prop := nonceBoundRow.holds Try.pinned (OpenSpec.ofChange nonceBoundWrong)

/-- 'greatseallaw21.NonceBoth': WHATEVER THE INPUT: true; the input reads as it did. -/
def nonceBothSpec : ChangeSpec := { name := "nonceBoth", fn := fun _ => fun
  | [d1, d2, d3, d4] => { results := [.lit (.bool true)], args := [d1, d2, d3, d4] }
  | _ => none }
def nonceBothRow : OpenClaim := { program := "ytmkolmgpcmceaaa", sum := "1c270d7cb5e5c36dcd948be99ee06c44b8c902d312bd41a2eb4725ee5daa1d60", func := "greatseal/greatseallaw21.NonceBoth", spec := "nonceBoth", unfollowed := true, recurses := true, apart := false }
def NonceBothSaid : Prop := nonceBothRow.holds Try.pinned (OpenSpec.ofChange nonceBothSpec)

/-- ITS FALSE NEIGHBOUR: 'it returns false'. Refute it at one input. -/
def nonceBothWrong : ChangeSpec := { name := "nonceBoth", fn := fun _ => fun
  | [d1, d2, d3, d4] => { results := [.lit (.bool false)], args := [d1, d2, d3, d4] }
  | _ => none }
def NonceBothWrongFalsely : Prop := nonceBothRow.holds Try.pinned (OpenSpec.ofChange nonceBothWrong)

/- THE SECOND FORM. 'bulk': how many values and letters a reading holds, each counted each time it is reached (what is shared counts as often as it is met; a slice's spare places count too). A statement '..UptoSaid' is the law's where the arguments, and the package variables that the reading takes, are together of bulk at most 1048576: NARROWER than '..Said'. Prove '..Said' where nothing that the law and all that it calls make is longer than what came in: it says more and counts as full. Else prove '..UptoSaid'. A law counts once. -/
mutual
def uptoBulk {H : Type} : DataW H → Nat
  | .lit (.string bytes) => bytes.length + 1
  | .lit _ => 1
  | .nil => 1
  | .ptr d => uptoBulk d + 1
  | .slice elems spare => uptoBulkAll elems + uptoBulkAll spare + 1
  | .agg parts => uptoBulkAll parts + 1
  | .iface _ d => uptoBulk d + 1
  | .map entries => uptoBulkEntries entries + 1
  | .held _ => 1
def uptoBulkAll {H : Type} : List (DataW H) → Nat
  | [] => 0
  | d :: r => uptoBulk d + uptoBulkAll r
def uptoBulkEntries {H : Type} : List (Lit × DataW H) → Nat
  | [] => 0
  | x :: r => uptoBulkEntry x + uptoBulkEntries r
def uptoBulkEntry {H : Type} : Lit × DataW H → Nat
  | (.string bytes, d) => bytes.length + uptoBulk d + 1
  | (_, d) => uptoBulk d + 1
 end
def uptoSmall : (H : Type) → List (DataW H) → Bool := fun _ ds => decide (uptoBulkAll ds ≤ 1048576)
def OpenSpec.upto (s : _root_.Go.ChangeSpec) : _root_.Go.OpenSpec := { _root_.Go.OpenSpec.ofChange s with cond := some uptoSmall }

/-- 'greatseallaw21.NonceChecks', WHERE WHAT IT READS IS OF BULK AT MOST 1048576: true; the input reads as it did. -/
def nonceChecksUptoRow : OpenClaim := { program := "ytmkolmgpcmceaaa", sum := "1c270d7cb5e5c36dcd948be99ee06c44b8c902d312bd41a2eb4725ee5daa1d60", func := "greatseal/greatseallaw21.NonceChecks", spec := "nonceChecks", unfollowed := true, recurses := true, apart := false, narrowed := true }
def NonceChecksUptoSaid : Prop := nonceChecksUptoRow.holds Try.pinned (OpenSpec.upto nonceChecksSpec)

/-- 'greatseallaw21.NonceSteps', WHERE WHAT IT READS IS OF BULK AT MOST 1048576: true; the input reads as it did. -/
def nonceStepsUptoRow : OpenClaim := { program := "ytmkolmgpcmceaaa", sum := "1c270d7cb5e5c36dcd948be99ee06c44b8c902d312bd41a2eb4725ee5daa1d60", func := "greatseal/greatseallaw21.NonceSteps", spec := "nonceSteps", unfollowed := true, recurses := true, apart := false, narrowed := true }
def NonceStepsUptoSaid : Prop := nonceStepsUptoRow.holds Try.pinned (OpenSpec.upto nonceStepsSpec)

/-- 'greatseallaw21.NonceOnce', WHERE WHAT IT READS IS OF BULK AT MOST 1048576: true; the input reads as it did. -/
def nonceOnceUptoRow : OpenClaim := { program := "ytmkolmgpcmceaaa", sum := "1c270d7cb5e5c36dcd948be99ee06c44b8c902d312bd41a2eb4725ee5daa1d60", func := "greatseal/greatseallaw21.NonceOnce", spec := "nonceOnce", unfollowed := true, recurses := true, apart := false, narrowed := true }
def NonceOnceUptoSaid : Prop := nonceOnceUptoRow.holds Try.pinned (OpenSpec.upto nonceOnceSpec)

/-- 'greatseallaw21.NonceTold', WHERE WHAT IT READS IS OF BULK AT MOST 1048576: true; the input reads as it did. -/
def nonceToldUptoRow : OpenClaim := { program := "ytmkolmgpcmceaaa", sum := "1c270d7cb5e5c36dcd948be99ee06c44b8c902d312bd41a2eb4725ee5daa1d60", func := "greatseal/greatseallaw21.NonceTold", spec := "nonceTold", unfollowed := true, recurses := true, apart := false, narrowed := true }
def NonceToldUptoSaid : Prop := nonceToldUptoRow.holds Try.pinned (OpenSpec.upto nonceToldSpec)

/-- 'greatseallaw21.NonceApart', WHERE WHAT IT READS IS OF BULK AT MOST 1048576: true; the input reads as it did. -/
def nonceApartUptoRow : OpenClaim := { program := "ytmkolmgpcmceaaa", sum := "1c270d7cb5e5c36dcd948be99ee06c44b8c902d312bd41a2eb4725ee5daa1d60", func := "greatseal/greatseallaw21.NonceApart", spec := "nonceApart", unfollowed := true, recurses := true, apart := false, narrowed := true }
def NonceApartUptoSaid : Prop := nonceApartUptoRow.holds Try.pinned (OpenSpec.upto nonceApartSpec)

/-- 'greatseallaw21.NonceTrims', WHERE WHAT IT READS IS OF BULK AT MOST 1048576: true; the input reads as it did. -/
def nonceTrimsUptoRow : OpenClaim := { program := "ytmkolmgpcmceaaa", sum := "1c270d7cb5e5c36dcd948be99ee06c44b8c902d312bd41a2eb4725ee5daa1d60", func := "greatseal/greatseallaw21.NonceTrims", spec := "nonceTrims", unfollowed := true, recurses := true, apart := false, narrowed := true }
def NonceTrimsUptoSaid : Prop := nonceTrimsUptoRow.holds Try.pinned (OpenSpec.upto nonceTrimsSpec)

/-- 'greatseallaw21.NonceBound', WHERE WHAT IT READS IS OF BULK AT MOST 1048576: true; the input reads as it did. -/
def nonceBoundUptoRow : OpenClaim := { program := "ytmkolmgpcmceaaa", sum := "1c270d7cb5e5c36dcd948be99ee06c44b8c902d312bd41a2eb4725ee5daa1d60", func := "greatseal/greatseallaw21.NonceBound", spec := "nonceBound", unfollowed := true, recurses := true, apart := false, narrowed := true }
def NonceBoundUptoSaid : Prop := nonceBoundUptoRow.holds Try.pinned (OpenSpec.upto nonceBoundSpec)

/-- 'greatseallaw21.NonceBoth', WHERE WHAT IT READS IS OF BULK AT MOST 1048576: true; the input reads as it did. -/
def nonceBothUptoRow : OpenClaim := { program := "ytmkolmgpcmceaaa", sum := "1c270d7cb5e5c36dcd948be99ee06c44b8c902d312bd41a2eb4725ee5daa1d60", func := "greatseal/greatseallaw21.NonceBoth", spec := "nonceBoth", unfollowed := true, recurses := true, apart := false, narrowed := true }
def NonceBothUptoSaid : Prop := nonceBothUptoRow.holds Try.pinned (OpenSpec.upto nonceBothSpec)

end Rows
end Go.Proofs.Ytmkolmgpcmceaaa
