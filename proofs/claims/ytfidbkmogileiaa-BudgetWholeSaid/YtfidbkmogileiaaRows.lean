/-
  No cell of these rows narrows 'for every input' (looked for: loops, veiled, ifaces, maps, wideKeys, modest, calm, conditions, laid).
  DERIVED. THE GIVEN ROWS OF THIS SEAT. 8 by the template 'for every input the law returns true; each argument reads behind the call as it read before'; 0 by the template 'total and deterministic' (their statements: YtfidbkmogileiaaTotals.lean).
  GIVEN WITH THE SEED: the statements are not yours to turn. If you find one false, say at which input.
  Laid BY PROGRAM, IN A SANDBOX (cutbox-rows.mjs): the forced cells as the released guide's own fill.sh prints them over the translation edebd9b3feeccc37… (all of the seat's roots in one cut). By AI agents, Wed Nov 11 2026. No macro, syntax, notation, axiom, sorry.
-/
import Derived.Test.YtfidbkmogileiaaChecked
import GoSem.Claim
import GoSem.ClaimJoined
import GoSem.ClaimMapViews
import Derived.JoinedTies
import Derived.KernelRfl
namespace Go.Proofs.Ytfidbkmogileiaa
/- THE CELL 'sum', in the pinned program and in every row, IS THE sha256 OF THE DUMP (.gsa) THAT YtfidbkmogileiaaProg.lean LOADS. Nothing in Lean hashes anything: it is a label: what it is worth is what the hold of that sum in a sandbox is worth. -/
noncomputable def Try.pinned : Pinned := { name := "ytfidbkmogileiaa", sum := "edebd9b3feeccc378f88c4643ffd1a37cba036c4640fc00407ad77ce99899193", checked := Try.checked }
namespace Rows
def none {H : Type} : Left H := { results := [], args := [] }

/-- 'greatseallaw17.BudgetTells': WHATEVER THE INPUT: true; the input reads as it did. -/
def budgetTellsSpec : ChangeSpec := { name := "budgetTells", fn := fun _ => fun
  | [d1, d2, d3, d4, d5, d6] => { results := [.lit (.bool true)], args := [d1, d2, d3, d4, d5, d6] }
  | _ => none }
def budgetTellsRow : OpenClaim := { program := "ytfidbkmogileiaa", sum := "edebd9b3feeccc378f88c4643ffd1a37cba036c4640fc00407ad77ce99899193", func := "greatseal/greatseallaw17.BudgetTells", spec := "budgetTells", inPlace := ["slices.overlaps[greatseal/api.Spent]"], unfollowed := true, recurses := true, apart := false }
def BudgetTellsSaid : Prop := budgetTellsRow.holds Try.pinned (OpenSpec.ofChange budgetTellsSpec)

/-- ITS FALSE NEIGHBOUR: 'it returns false'. Refute it at one input. -/
def budgetTellsWrong : ChangeSpec := { name := "budgetTells", fn := fun _ => fun
  | [d1, d2, d3, d4, d5, d6] => { results := [.lit (.bool false)], args := [d1, d2, d3, d4, d5, d6] }
  | _ => none }
def BudgetTellsWrongFalsely : Prop := budgetTellsRow.holds Try.pinned (OpenSpec.ofChange budgetTellsWrong)

/-- 'greatseallaw17.BudgetSpends': WHATEVER THE INPUT: true; the input reads as it did. -/
def budgetSpendsSpec : ChangeSpec := { name := "budgetSpends", fn := fun _ => fun
  | [d1, d2, d3, d4, d5, d6] => { results := [.lit (.bool true)], args := [d1, d2, d3, d4, d5, d6] }
  | _ => none }
def budgetSpendsRow : OpenClaim := { program := "ytfidbkmogileiaa", sum := "edebd9b3feeccc378f88c4643ffd1a37cba036c4640fc00407ad77ce99899193", func := "greatseal/greatseallaw17.BudgetSpends", spec := "budgetSpends", inPlace := ["slices.overlaps[greatseal/api.Spent]"], unfollowed := true, recurses := true, apart := false }
def BudgetSpendsSaid : Prop := budgetSpendsRow.holds Try.pinned (OpenSpec.ofChange budgetSpendsSpec)

/-- ITS FALSE NEIGHBOUR: 'it returns false'. Refute it at one input. -/
def budgetSpendsWrong : ChangeSpec := { name := "budgetSpends", fn := fun _ => fun
  | [d1, d2, d3, d4, d5, d6] => { results := [.lit (.bool false)], args := [d1, d2, d3, d4, d5, d6] }
  | _ => none }
def BudgetSpendsWrongFalsely : Prop := budgetSpendsRow.holds Try.pinned (OpenSpec.ofChange budgetSpendsWrong)

/-- 'greatseallaw17.BudgetBound': WHATEVER THE INPUT: true; the input reads as it did. -/
def budgetBoundSpec : ChangeSpec := { name := "budgetBound", fn := fun _ => fun
  | [d1, d2, d3, d4, d5] => { results := [.lit (.bool true)], args := [d1, d2, d3, d4, d5] }
  | _ => none }
def budgetBoundRow : OpenClaim := { program := "ytfidbkmogileiaa", sum := "edebd9b3feeccc378f88c4643ffd1a37cba036c4640fc00407ad77ce99899193", func := "greatseal/greatseallaw17.BudgetBound", spec := "budgetBound", inPlace := ["slices.overlaps[greatseal/api.Spent]"], unfollowed := true, recurses := true, apart := false }
def BudgetBoundSaid : Prop := budgetBoundRow.holds Try.pinned (OpenSpec.ofChange budgetBoundSpec)

/-- ITS FALSE NEIGHBOUR: 'it returns false'. Refute it at one input. -/
def budgetBoundWrong : ChangeSpec := { name := "budgetBound", fn := fun _ => fun
  | [d1, d2, d3, d4, d5] => { results := [.lit (.bool false)], args := [d1, d2, d3, d4, d5] }
  | _ => none }
def BudgetBoundWrongFalsely : Prop := budgetBoundRow.holds Try.pinned (OpenSpec.ofChange budgetBoundWrong)

/-- 'greatseallaw17.BudgetLess': WHATEVER THE INPUT: true; the input reads as it did. -/
def budgetLessSpec : ChangeSpec := { name := "budgetLess", fn := fun _ => fun
  | [d1, d2, d3, d4, d5, d6, d7, d8] => { results := [.lit (.bool true)], args := [d1, d2, d3, d4, d5, d6, d7, d8] }
  | _ => none }
def budgetLessRow : OpenClaim := { program := "ytfidbkmogileiaa", sum := "edebd9b3feeccc378f88c4643ffd1a37cba036c4640fc00407ad77ce99899193", func := "greatseal/greatseallaw17.BudgetLess", spec := "budgetLess", inPlace := ["slices.overlaps[greatseal/api.Spent]"], unfollowed := true, recurses := true, apart := false }
def BudgetLessSaid : Prop := budgetLessRow.holds Try.pinned (OpenSpec.ofChange budgetLessSpec)

/-- ITS FALSE NEIGHBOUR: 'it returns false'. Refute it at one input. -/
def budgetLessWrong : ChangeSpec := { name := "budgetLess", fn := fun _ => fun
  | [d1, d2, d3, d4, d5, d6, d7, d8] => { results := [.lit (.bool false)], args := [d1, d2, d3, d4, d5, d6, d7, d8] }
  | _ => none }
def BudgetLessWrongFalsely : Prop := budgetLessRow.holds Try.pinned (OpenSpec.ofChange budgetLessWrong)

/-- 'greatseallaw17.BudgetAgain': WHATEVER THE INPUT: true; the input reads as it did. -/
def budgetAgainSpec : ChangeSpec := { name := "budgetAgain", fn := fun _ => fun
  | [d1, d2, d3, d4, d5, d6] => { results := [.lit (.bool true)], args := [d1, d2, d3, d4, d5, d6] }
  | _ => none }
def budgetAgainRow : OpenClaim := { program := "ytfidbkmogileiaa", sum := "edebd9b3feeccc378f88c4643ffd1a37cba036c4640fc00407ad77ce99899193", func := "greatseal/greatseallaw17.BudgetAgain", spec := "budgetAgain", inPlace := ["slices.overlaps[greatseal/api.Spent]"], unfollowed := true, recurses := true, apart := false }
def BudgetAgainSaid : Prop := budgetAgainRow.holds Try.pinned (OpenSpec.ofChange budgetAgainSpec)

/-- ITS FALSE NEIGHBOUR: 'it returns false'. Refute it at one input. -/
def budgetAgainWrong : ChangeSpec := { name := "budgetAgain", fn := fun _ => fun
  | [d1, d2, d3, d4, d5, d6] => { results := [.lit (.bool false)], args := [d1, d2, d3, d4, d5, d6] }
  | _ => none }
def BudgetAgainWrongFalsely : Prop := budgetAgainRow.holds Try.pinned (OpenSpec.ofChange budgetAgainWrong)

/-- 'greatseallaw17.BudgetApart': WHATEVER THE INPUT: true; the input reads as it did. -/
def budgetApartSpec : ChangeSpec := { name := "budgetApart", fn := fun _ => fun
  | [d1, d2, d3, d4, d5, d6, d7, d8] => { results := [.lit (.bool true)], args := [d1, d2, d3, d4, d5, d6, d7, d8] }
  | _ => none }
def budgetApartRow : OpenClaim := { program := "ytfidbkmogileiaa", sum := "edebd9b3feeccc378f88c4643ffd1a37cba036c4640fc00407ad77ce99899193", func := "greatseal/greatseallaw17.BudgetApart", spec := "budgetApart", inPlace := ["slices.overlaps[greatseal/api.Spent]"], unfollowed := true, recurses := true, apart := false }
def BudgetApartSaid : Prop := budgetApartRow.holds Try.pinned (OpenSpec.ofChange budgetApartSpec)

/-- ITS FALSE NEIGHBOUR: 'it returns false'. Refute it at one input. -/
def budgetApartWrong : ChangeSpec := { name := "budgetApart", fn := fun _ => fun
  | [d1, d2, d3, d4, d5, d6, d7, d8] => { results := [.lit (.bool false)], args := [d1, d2, d3, d4, d5, d6, d7, d8] }
  | _ => none }
def BudgetApartWrongFalsely : Prop := budgetApartRow.holds Try.pinned (OpenSpec.ofChange budgetApartWrong)

/-- 'greatseallaw17.BudgetAll': WHATEVER THE INPUT: true; the input reads as it did. -/
def budgetAllSpec : ChangeSpec := { name := "budgetAll", fn := fun _ => fun
  | [d1, d2, d3, d4, d5] => { results := [.lit (.bool true)], args := [d1, d2, d3, d4, d5] }
  | _ => none }
def budgetAllRow : OpenClaim := { program := "ytfidbkmogileiaa", sum := "edebd9b3feeccc378f88c4643ffd1a37cba036c4640fc00407ad77ce99899193", func := "greatseal/greatseallaw17.BudgetAll", spec := "budgetAll", inPlace := ["slices.overlaps[greatseal/api.Spent]"], unfollowed := true, recurses := true, apart := false }
def BudgetAllSaid : Prop := budgetAllRow.holds Try.pinned (OpenSpec.ofChange budgetAllSpec)

/-- ITS FALSE NEIGHBOUR: 'it returns false'. Refute it at one input. -/
def budgetAllWrong : ChangeSpec := { name := "budgetAll", fn := fun _ => fun
  | [d1, d2, d3, d4, d5] => { results := [.lit (.bool false)], args := [d1, d2, d3, d4, d5] }
  | _ => none }
def BudgetAllWrongFalsely : Prop := budgetAllRow.holds Try.pinned (OpenSpec.ofChange budgetAllWrong)

/-- 'greatseallaw17.BudgetWhole': WHATEVER THE INPUT: true; the input reads as it did. -/
def budgetWholeSpec : ChangeSpec := { name := "budgetWhole", fn := fun _ => fun
  | [d1, d2, d3, d4, d5] => { results := [.lit (.bool true)], args := [d1, d2, d3, d4, d5] }
  | _ => none }
def budgetWholeRow : OpenClaim := { program := "ytfidbkmogileiaa", sum := "edebd9b3feeccc378f88c4643ffd1a37cba036c4640fc00407ad77ce99899193", func := "greatseal/greatseallaw17.BudgetWhole", spec := "budgetWhole", inPlace := ["slices.overlaps[greatseal/api.Spent]"], unfollowed := true, recurses := true, apart := false }
def BudgetWholeSaid : Prop := budgetWholeRow.holds Try.pinned (OpenSpec.ofChange budgetWholeSpec)

/-- ITS FALSE NEIGHBOUR: 'it returns false'. Refute it at one input. -/
def budgetWholeWrong : ChangeSpec := { name := "budgetWhole", fn := fun _ => fun
  | [d1, d2, d3, d4, d5] => { results := [.lit (.bool false)], args := [d1, d2, d3, d4, d5] }
  | _ => none }
def BudgetWholeWrongFalsely : Prop := budgetWholeRow.holds Try.pinned (OpenSpec.ofChange budgetWholeWrong)

/- THE SECOND FORM. 'bulk': how many values and letters a reading holds, each counted each time it is reached (what is shared counts as often as it is met; a slice's spare places count too). A statement '..UptoSaid' is the law's where the arguments, and the package variables that the reading takes, are together of bulk at most 1048576: NARROWER than '..Said'. Prove '..Said' where nothing that the law and all that it calls make is longer than what came in: it says more and counts as full. Else prove '..UptoSaid'. A law counts once. -/
mutual
def uptoBulk {H : Type} : DataW H → Nat
  | .lit (.string bytes) => bytes.length + 1
  | .lit _ => 1
  | .nil => 1
  | .ptr d => uptoBulk d + 1
  | .slice elems spare => uptoBulkAll elems + uptoBulkAll spare + 1
  | .agg parts => uptoBulkAll parts + 1
  | .iface _ d => uptoBulk d + 1
  | .map entries => uptoBulkEntries entries + 1
  | .held _ => 1
def uptoBulkAll {H : Type} : List (DataW H) → Nat
  | [] => 0
  | d :: r => uptoBulk d + uptoBulkAll r
def uptoBulkEntries {H : Type} : List (Lit × DataW H) → Nat
  | [] => 0
  | x :: r => uptoBulkEntry x + uptoBulkEntries r
def uptoBulkEntry {H : Type} : Lit × DataW H → Nat
  | (.string bytes, d) => bytes.length + uptoBulk d + 1
  | (_, d) => uptoBulk d + 1
 end
def uptoSmall : (H : Type) → List (DataW H) → Bool := fun _ ds => decide (uptoBulkAll ds ≤ 1048576)
def OpenSpec.upto (s : _root_.Go.ChangeSpec) : _root_.Go.OpenSpec := { _root_.Go.OpenSpec.ofChange s with cond := some uptoSmall }

/-- 'greatseallaw17.BudgetTells', WHERE WHAT IT READS IS OF BULK AT MOST 1048576: true; the input reads as it did. -/
def budgetTellsUptoRow : OpenClaim := { program := "ytfidbkmogileiaa", sum := "edebd9b3feeccc378f88c4643ffd1a37cba036c4640fc00407ad77ce99899193", func := "greatseal/greatseallaw17.BudgetTells", spec := "budgetTells", inPlace := ["slices.overlaps[greatseal/api.Spent]"], unfollowed := true, recurses := true, apart := false, narrowed := true }
def BudgetTellsUptoSaid : Prop := budgetTellsUptoRow.holds Try.pinned (OpenSpec.upto budgetTellsSpec)

/-- 'greatseallaw17.BudgetSpends', WHERE WHAT IT READS IS OF BULK AT MOST 1048576: true; the input reads as it did. -/
def budgetSpendsUptoRow : OpenClaim := { program := "ytfidbkmogileiaa", sum := "edebd9b3feeccc378f88c4643ffd1a37cba036c4640fc00407ad77ce99899193", func := "greatseal/greatseallaw17.BudgetSpends", spec := "budgetSpends", inPlace := ["slices.overlaps[greatseal/api.Spent]"], unfollowed := true, recurses := true, apart := false, narrowed := true }
def BudgetSpendsUptoSaid : Prop := budgetSpendsUptoRow.holds Try.pinned (OpenSpec.upto budgetSpendsSpec)

/-- 'greatseallaw17.BudgetBound', WHERE WHAT IT READS IS OF BULK AT MOST 1048576: true; the input reads as it did. -/
def budgetBoundUptoRow : OpenClaim := { program := "ytfidbkmogileiaa", sum := "edebd9b3feeccc378f88c4643ffd1a37cba036c4640fc00407ad77ce99899193", func := "greatseal/greatseallaw17.BudgetBound", spec := "budgetBound", inPlace := ["slices.overlaps[greatseal/api.Spent]"], unfollowed := true, recurses := true, apart := false, narrowed := true }
def BudgetBoundUptoSaid : Prop := budgetBoundUptoRow.holds Try.pinned (OpenSpec.upto budgetBoundSpec)

/-- 'greatseallaw17.BudgetLess', WHERE WHAT IT READS IS OF BULK AT MOST 1048576: true; the input reads as it did. -/
def budgetLessUptoRow : OpenClaim := { program := "ytfidbkmogileiaa", sum := "edebd9b3feeccc378f88c4643ffd1a37cba036c4640fc00407ad77ce99899193", func := "greatseal/greatseallaw17.BudgetLess", spec := "budgetLess", inPlace := ["slices.overlaps[greatseal/api.Spent]"], unfollowed := true, recurses := true, apart := false, narrowed := true }
def BudgetLessUptoSaid : Prop := budgetLessUptoRow.holds Try.pinned (OpenSpec.upto budgetLessSpec)

/-- 'greatseallaw17.BudgetAgain', WHERE WHAT IT READS IS OF BULK AT MOST 1048576: true; the input reads as it did. -/
def budgetAgainUptoRow : OpenClaim := { program := "ytfidbkmogileiaa", sum := "edebd9b3feeccc378f88c4643ffd1a37cba036c4640fc00407ad77ce99899193", func := "greatseal/greatseallaw17.BudgetAgain", spec := "budgetAgain", inPlace := ["slices.overlaps[greatseal/api.Spent]"], unfollowed := true, recurses := true, apart := false, narrowed := true }
def BudgetAgainUptoSaid : Prop := budgetAgainUptoRow.holds Try.pinned (OpenSpec.upto budgetAgainSpec)

/-- 'greatseallaw17.BudgetApart', WHERE WHAT IT READS IS OF BULK AT MOST 1048576: true; the input reads as it did. -/
def budgetApartUptoRow : OpenClaim := { program := "ytfidbkmogileiaa", sum := "edebd9b3feeccc378f88c4643ffd1a37cba036c4640fc00407ad77ce99899193", func := "greatseal/greatseallaw17.BudgetApart", spec := "budgetApart", inPlace := ["slices.overlaps[greatseal/api.Spent]"], unfollowed := true, recurses := true, apart := false, narrowed := true }
def BudgetApartUptoSaid : Prop := budgetApartUptoRow.holds Try.pinned (OpenSpec.upto budgetApartSpec)

/-- 'greatseallaw17.BudgetAll', WHERE WHAT IT READS IS OF BULK AT MOST 1048576: true; the input reads as it did. -/
def budgetAllUptoRow : OpenClaim := { program := "ytfidbkmogileiaa", sum := "edebd9b3feeccc378f88c4643ffd1a37cba036c4640fc00407ad77ce99899193", func := "greatseal/greatseallaw17.BudgetAll", spec := "budgetAll", inPlace := ["slices.overlaps[greatseal/api.Spent]"], unfollowed := true, recurses := true, apart := false, narrowed := true }
def BudgetAllUptoSaid : Prop := budgetAllUptoRow.holds Try.pinned (OpenSpec.upto budgetAllSpec)

/-- 'greatseallaw17.BudgetWhole', WHERE WHAT IT READS IS OF BULK AT MOST 1048576: true; the input reads as it did. -/
def budgetWholeUptoRow : OpenClaim := { program := "ytfidbkmogileiaa", sum := "edebd9b3feeccc378f88c4643ffd1a37cba036c4640fc00407ad77ce99899193", func := "greatseal/greatseallaw17.BudgetWhole", spec := "budgetWhole", inPlace := ["slices.overlaps[greatseal/api.Spent]"], unfollowed := true, recurses := true, apart := false, narrowed := true }
def BudgetWholeUptoSaid : Prop := budgetWholeUptoRow.holds Try.pinned (OpenSpec.upto budgetWholeSpec)

end Rows
end Go.Proofs.Ytfidbkmogileiaa
