/-
  NARROWER THAN 'FOR EVERY INPUT', by the rows' own cells (each row's printed sentence says how): ResolveFinds: laid · ResolveKept: laid · ResolveStands: laid · ResolveStays: laid · ResolveOthers: laid · ResolveAlias: laid · ResolveStraight: laid.
  DERIVED. THE GIVEN ROWS OF THIS SEAT. 7 by the template 'for every input the law returns true; each argument reads behind the call as it read before'; 0 by the template 'total and deterministic' (their statements: YtbkgceobmfcapaaGreatDoorTotals.lean).
  GIVEN WITH THE SEED: the statements are not yours to turn. If you find one false, say at which input.
  Laid BY PROGRAM, IN A SANDBOX (cutbox-rows.mjs): the forced cells as the released guide's own fill.sh prints them over the translation af3d004731d8e09b… (all of the seat's roots in one cut). By AI agents, Wed Nov 11 2026. No macro, syntax, notation, axiom, sorry.
-/
import Derived.Test.YtbkgceobmfcapaaGreatDoorChecked
import GoSem.PinnedTables
import GoSem.Claim
import GoSem.ClaimJoined
import GoSem.ClaimMapViews
import Derived.JoinedTies
import Derived.KernelRfl
namespace Go.Proofs.YtbkgceobmfcapaaGreatDoor
/- THE CELL 'sum', in the pinned program and in every row, IS THE sha256 OF THE DUMP (.gsa) THAT YtbkgceobmfcapaaGreatDoorProg.lean LOADS. Nothing in Lean hashes anything: it is a label: what it is worth is what the hold of that sum in a sandbox is worth. -/
noncomputable def Tryz.pinned : Pinned := { name := "ytbkgceobmfcapaagreatdoor", sum := "af3d004731d8e09b2754981e1c71f51547ed4b534ef3be7398368fbdceeed4e1", checked := Tryz.checked }
namespace Rows
def none {H : Type} : Left H := { results := [], args := [] }

/- WHAT THE LISTED PACKAGE-LEVEL VARIABLES READ AS WHEN THE CALL BEGINS. Each datum BY PROGRAM (the guide's laid-datum.mjs) off the statement by which the dump's own 'gosem.cut.vars' lays the variable. In a bare row this is a premise. The card (YtbkgceobmfcapaaGreatDoorCards.lean) ties it to the program's text. -/
def laid_unicode_utf8_acceptRanges {H : Type} : DataW H := .agg [.agg [.lit (.int .u8 128), .lit (.int .u8 191)], .agg [.lit (.int .u8 160), .lit (.int .u8 191)], .agg [.lit (.int .u8 128), .lit (.int .u8 159)], .agg [.lit (.int .u8 144), .lit (.int .u8 191)], .agg [.lit (.int .u8 128), .lit (.int .u8 143)], .agg [.lit (.int .u8 0), .lit (.int .u8 0)], .agg [.lit (.int .u8 0), .lit (.int .u8 0)], .agg [.lit (.int .u8 0), .lit (.int .u8 0)], .agg [.lit (.int .u8 0), .lit (.int .u8 0)], .agg [.lit (.int .u8 0), .lit (.int .u8 0)], .agg [.lit (.int .u8 0), .lit (.int .u8 0)], .agg [.lit (.int .u8 0), .lit (.int .u8 0)], .agg [.lit (.int .u8 0), .lit (.int .u8 0)], .agg [.lit (.int .u8 0), .lit (.int .u8 0)], .agg [.lit (.int .u8 0), .lit (.int .u8 0)], .agg [.lit (.int .u8 0), .lit (.int .u8 0)]]
/-- One of Go's own tables, pinned by name: the form's constant. -/
def laid_unicode_utf8_first : DataW Unit := Go.Pinned.utf8First

/-- 'greatseallaw14.ResolveFinds': WHATEVER THE INPUT: true; the input reads as it did. -/
def resolveFindsSpec : ChangeSpec := { name := "resolveFinds", fn := fun _ => fun
  | [d1, d2, d3, d4, d5, d6] => { results := [.lit (.bool true)], args := [d1, d2, d3, d4, d5, d6] }
  | _ => none }
def resolveFindsRow : OpenClaim := { program := "ytbkgceobmfcapaagreatdoor", sum := "af3d004731d8e09b2754981e1c71f51547ed4b534ef3be7398368fbdceeed4e1", func := "greatseal/greatseallaw14.ResolveFinds", spec := "resolveFinds", inPlace := ["internal/bytealg.CountString", "internal/bytealg.IndexByteString", "internal/bytealg.IndexString", "internal/bytealg.abigen_runtime_cmpstring", "slices.overlaps[greatseal/api.Kept]"], unfollowed := true, recurses := true, named := ["internal/bytealg.MaxLen", "unicode/utf8.first", "unicode/utf8.acceptRanges"], apart := false, laid := [("unicode/utf8.acceptRanges", laid_unicode_utf8_acceptRanges), ("unicode/utf8.first", laid_unicode_utf8_first)] }
def ResolveFindsSaid : Prop := resolveFindsRow.holds Tryz.pinned (OpenSpec.ofChange resolveFindsSpec)

/-- ITS FALSE NEIGHBOUR: 'it returns false'. Refute it at one input. -/
def resolveFindsWrong : ChangeSpec := { name := "resolveFinds", fn := fun _ => fun
  | [d1, d2, d3, d4, d5, d6] => { results := [.lit (.bool false)], args := [d1, d2, d3, d4, d5, d6] }
  | _ => none }
def ResolveFindsWrongFalsely : Prop := resolveFindsRow.holds Tryz.pinned (OpenSpec.ofChange resolveFindsWrong)

/-- 'greatseallaw14.ResolveKept': WHATEVER THE INPUT: true; the input reads as it did. -/
def resolveKeptSpec : ChangeSpec := { name := "resolveKept", fn := fun _ => fun
  | [d1, d2, d3, d4, d5, d6, d7, d8, d9] => { results := [.lit (.bool true)], args := [d1, d2, d3, d4, d5, d6, d7, d8, d9] }
  | _ => none }
def resolveKeptRow : OpenClaim := { program := "ytbkgceobmfcapaagreatdoor", sum := "af3d004731d8e09b2754981e1c71f51547ed4b534ef3be7398368fbdceeed4e1", func := "greatseal/greatseallaw14.ResolveKept", spec := "resolveKept", inPlace := ["internal/bytealg.CountString", "internal/bytealg.IndexByteString", "internal/bytealg.IndexString", "internal/bytealg.abigen_runtime_cmpstring", "slices.overlaps[greatseal/api.Kept]"], unfollowed := true, recurses := true, named := ["internal/bytealg.MaxLen", "unicode/utf8.first", "unicode/utf8.acceptRanges"], apart := false, laid := [("unicode/utf8.acceptRanges", laid_unicode_utf8_acceptRanges), ("unicode/utf8.first", laid_unicode_utf8_first)] }
def ResolveKeptSaid : Prop := resolveKeptRow.holds Tryz.pinned (OpenSpec.ofChange resolveKeptSpec)

/-- ITS FALSE NEIGHBOUR: 'it returns false'. Refute it at one input. -/
def resolveKeptWrong : ChangeSpec := { name := "resolveKept", fn := fun _ => fun
  | [d1, d2, d3, d4, d5, d6, d7, d8, d9] => { results := [.lit (.bool false)], args := [d1, d2, d3, d4, d5, d6, d7, d8, d9] }
  | _ => none }
def ResolveKeptWrongFalsely : Prop := resolveKeptRow.holds Tryz.pinned (OpenSpec.ofChange resolveKeptWrong)

/-- 'greatseallaw14.ResolveStands': WHATEVER THE INPUT: true; the input reads as it did. -/
def resolveStandsSpec : ChangeSpec := { name := "resolveStands", fn := fun _ => fun
  | [d1, d2, d3, d4, d5] => { results := [.lit (.bool true)], args := [d1, d2, d3, d4, d5] }
  | _ => none }
def resolveStandsRow : OpenClaim := { program := "ytbkgceobmfcapaagreatdoor", sum := "af3d004731d8e09b2754981e1c71f51547ed4b534ef3be7398368fbdceeed4e1", func := "greatseal/greatseallaw14.ResolveStands", spec := "resolveStands", inPlace := ["internal/bytealg.CountString", "internal/bytealg.IndexByteString", "internal/bytealg.IndexString", "internal/bytealg.abigen_runtime_cmpstring", "slices.overlaps[greatseal/api.Kept]"], unfollowed := true, recurses := true, named := ["internal/bytealg.MaxLen", "unicode/utf8.first", "unicode/utf8.acceptRanges"], apart := false, laid := [("unicode/utf8.acceptRanges", laid_unicode_utf8_acceptRanges), ("unicode/utf8.first", laid_unicode_utf8_first)] }
def ResolveStandsSaid : Prop := resolveStandsRow.holds Tryz.pinned (OpenSpec.ofChange resolveStandsSpec)

/-- ITS FALSE NEIGHBOUR: 'it returns false'. Refute it at one input. -/
def resolveStandsWrong : ChangeSpec := { name := "resolveStands", fn := fun _ => fun
  | [d1, d2, d3, d4, d5] => { results := [.lit (.bool false)], args := [d1, d2, d3, d4, d5] }
  | _ => none }
def ResolveStandsWrongFalsely : Prop := resolveStandsRow.holds Tryz.pinned (OpenSpec.ofChange resolveStandsWrong)

/-- 'greatseallaw14.ResolveStays': WHATEVER THE INPUT: true; the input reads as it did. -/
def resolveStaysSpec : ChangeSpec := { name := "resolveStays", fn := fun _ => fun
  | [d1, d2, d3, d4, d5, d6] => { results := [.lit (.bool true)], args := [d1, d2, d3, d4, d5, d6] }
  | _ => none }
def resolveStaysRow : OpenClaim := { program := "ytbkgceobmfcapaagreatdoor", sum := "af3d004731d8e09b2754981e1c71f51547ed4b534ef3be7398368fbdceeed4e1", func := "greatseal/greatseallaw14.ResolveStays", spec := "resolveStays", inPlace := ["internal/bytealg.CountString", "internal/bytealg.IndexByteString", "internal/bytealg.IndexString", "internal/bytealg.abigen_runtime_cmpstring", "slices.overlaps[greatseal/api.Kept]"], unfollowed := true, recurses := true, named := ["internal/bytealg.MaxLen", "unicode/utf8.first", "unicode/utf8.acceptRanges"], apart := false, laid := [("unicode/utf8.acceptRanges", laid_unicode_utf8_acceptRanges), ("unicode/utf8.first", laid_unicode_utf8_first)] }
def ResolveStaysSaid : Prop := resolveStaysRow.holds Tryz.pinned (OpenSpec.ofChange resolveStaysSpec)

/-- ITS FALSE NEIGHBOUR: 'it returns false'. Refute it at one input. -/
def resolveStaysWrong : ChangeSpec := { name := "resolveStays", fn := fun _ => fun
  | [d1, d2, d3, d4, d5, d6] => { results := [.lit (.bool false)], args := [d1, d2, d3, d4, d5, d6] }
  | _ => none }
def ResolveStaysWrongFalsely : Prop := resolveStaysRow.holds Tryz.pinned (OpenSpec.ofChange resolveStaysWrong)

/-- 'greatseallaw14.ResolveOthers': WHATEVER THE INPUT: true; the input reads as it did. -/
def resolveOthersSpec : ChangeSpec := { name := "resolveOthers", fn := fun _ => fun
  | [d1, d2, d3, d4, d5, d6, d7, d8] => { results := [.lit (.bool true)], args := [d1, d2, d3, d4, d5, d6, d7, d8] }
  | _ => none }
def resolveOthersRow : OpenClaim := { program := "ytbkgceobmfcapaagreatdoor", sum := "af3d004731d8e09b2754981e1c71f51547ed4b534ef3be7398368fbdceeed4e1", func := "greatseal/greatseallaw14.ResolveOthers", spec := "resolveOthers", inPlace := ["internal/bytealg.CountString", "internal/bytealg.IndexByteString", "internal/bytealg.IndexString", "internal/bytealg.abigen_runtime_cmpstring", "slices.overlaps[greatseal/api.Kept]"], unfollowed := true, recurses := true, named := ["internal/bytealg.MaxLen", "unicode/utf8.first", "unicode/utf8.acceptRanges"], apart := false, laid := [("unicode/utf8.acceptRanges", laid_unicode_utf8_acceptRanges), ("unicode/utf8.first", laid_unicode_utf8_first)] }
def ResolveOthersSaid : Prop := resolveOthersRow.holds Tryz.pinned (OpenSpec.ofChange resolveOthersSpec)

/-- ITS FALSE NEIGHBOUR: 'it returns false'. Refute it at one input. -/
def resolveOthersWrong : ChangeSpec := { name := "resolveOthers", fn := fun _ => fun
  | [d1, d2, d3, d4, d5, d6, d7, d8] => { results := [.lit (.bool false)], args := [d1, d2, d3, d4, d5, d6, d7, d8] }
  | _ => none }
def ResolveOthersWrongFalsely : Prop := resolveOthersRow.holds Tryz.pinned (OpenSpec.ofChange resolveOthersWrong)

/-- 'greatseallaw14.ResolveAlias': WHATEVER THE INPUT: true; the input reads as it did. -/
def resolveAliasSpec : ChangeSpec := { name := "resolveAlias", fn := fun _ => fun
  | [d1, d2, d3, d4] => { results := [.lit (.bool true)], args := [d1, d2, d3, d4] }
  | _ => none }
def resolveAliasRow : OpenClaim := { program := "ytbkgceobmfcapaagreatdoor", sum := "af3d004731d8e09b2754981e1c71f51547ed4b534ef3be7398368fbdceeed4e1", func := "greatseal/greatseallaw14.ResolveAlias", spec := "resolveAlias", inPlace := ["internal/bytealg.CountString", "internal/bytealg.IndexByteString", "internal/bytealg.IndexString", "internal/bytealg.abigen_runtime_cmpstring", "slices.overlaps[greatseal/api.Kept]"], unfollowed := true, recurses := true, named := ["internal/bytealg.MaxLen", "unicode/utf8.first", "unicode/utf8.acceptRanges"], apart := false, laid := [("unicode/utf8.acceptRanges", laid_unicode_utf8_acceptRanges), ("unicode/utf8.first", laid_unicode_utf8_first)] }
def ResolveAliasSaid : Prop := resolveAliasRow.holds Tryz.pinned (OpenSpec.ofChange resolveAliasSpec)

/-- ITS FALSE NEIGHBOUR: 'it returns false'. Refute it at one input. -/
def resolveAliasWrong : ChangeSpec := { name := "resolveAlias", fn := fun _ => fun
  | [d1, d2, d3, d4] => { results := [.lit (.bool false)], args := [d1, d2, d3, d4] }
  | _ => none }
def ResolveAliasWrongFalsely : Prop := resolveAliasRow.holds Tryz.pinned (OpenSpec.ofChange resolveAliasWrong)

/-- 'greatseallaw14.ResolveStraight': WHATEVER THE INPUT: true; the input reads as it did. -/
def resolveStraightSpec : ChangeSpec := { name := "resolveStraight", fn := fun _ => fun
  | [d1, d2, d3, d4, d5, d6] => { results := [.lit (.bool true)], args := [d1, d2, d3, d4, d5, d6] }
  | _ => none }
def resolveStraightRow : OpenClaim := { program := "ytbkgceobmfcapaagreatdoor", sum := "af3d004731d8e09b2754981e1c71f51547ed4b534ef3be7398368fbdceeed4e1", func := "greatseal/greatseallaw14.ResolveStraight", spec := "resolveStraight", inPlace := ["internal/bytealg.CountString", "internal/bytealg.IndexByteString", "internal/bytealg.IndexString", "internal/bytealg.abigen_runtime_cmpstring", "slices.overlaps[greatseal/api.Kept]"], unfollowed := true, recurses := true, named := ["internal/bytealg.MaxLen", "unicode/utf8.first", "unicode/utf8.acceptRanges"], apart := false, laid := [("unicode/utf8.acceptRanges", laid_unicode_utf8_acceptRanges), ("unicode/utf8.first", laid_unicode_utf8_first)] }
def ResolveStraightSaid : Prop := resolveStraightRow.holds Tryz.pinned (OpenSpec.ofChange resolveStraightSpec)

/-- ITS FALSE NEIGHBOUR: 'it returns false'. Refute it at one input. -/
def resolveStraightWrong : ChangeSpec := { name := "resolveStraight", fn := fun _ => fun
  | [d1, d2, d3, d4, d5, d6] => { results := [.lit (.bool false)], args := [d1, d2, d3, d4, d5, d6] }
  | _ => none }
def ResolveStraightWrongFalsely : Prop := resolveStraightRow.holds Tryz.pinned (OpenSpec.ofChange resolveStraightWrong)

/- THE SECOND FORM. 'bulk': how many values and letters a reading holds, each counted each time it is reached (what is shared counts as often as it is met; a slice's spare places count too). A statement '..UptoSaid' is the law's where the arguments, and the package variables that the reading takes, are together of bulk at most 1048576: NARROWER than '..Said'. Prove '..Said' where nothing that the law and all that it calls make is longer than what came in: it says more and counts as full. Else prove '..UptoSaid'. A law counts once. -/
mutual
def uptoBulk {H : Type} : DataW H → Nat
  | .lit (.string bytes) => bytes.length + 1
  | .lit _ => 1
  | .nil => 1
  | .ptr d => uptoBulk d + 1
  | .slice elems spare => uptoBulkAll elems + uptoBulkAll spare + 1
  | .agg parts => uptoBulkAll parts + 1
  | .iface _ d => uptoBulk d + 1
  | .map entries => uptoBulkEntries entries + 1
  | .held _ => 1
def uptoBulkAll {H : Type} : List (DataW H) → Nat
  | [] => 0
  | d :: r => uptoBulk d + uptoBulkAll r
def uptoBulkEntries {H : Type} : List (Lit × DataW H) → Nat
  | [] => 0
  | x :: r => uptoBulkEntry x + uptoBulkEntries r
def uptoBulkEntry {H : Type} : Lit × DataW H → Nat
  | (.string bytes, d) => bytes.length + uptoBulk d + 1
  | (_, d) => uptoBulk d + 1
 end
def uptoSmall : (H : Type) → List (DataW H) → Bool := fun _ ds => decide (uptoBulkAll ds ≤ 1048576)
def OpenSpec.upto (s : _root_.Go.ChangeSpec) : _root_.Go.OpenSpec := { _root_.Go.OpenSpec.ofChange s with cond := some uptoSmall }

/-- 'greatseallaw14.ResolveFinds', WHERE WHAT IT READS IS OF BULK AT MOST 1048576: true; the input reads as it did. -/
def resolveFindsUptoRow : OpenClaim := { program := "ytbkgceobmfcapaagreatdoor", sum := "af3d004731d8e09b2754981e1c71f51547ed4b534ef3be7398368fbdceeed4e1", func := "greatseal/greatseallaw14.ResolveFinds", spec := "resolveFinds", inPlace := ["internal/bytealg.CountString", "internal/bytealg.IndexByteString", "internal/bytealg.IndexString", "internal/bytealg.abigen_runtime_cmpstring", "slices.overlaps[greatseal/api.Kept]"], unfollowed := true, recurses := true, named := ["internal/bytealg.MaxLen", "unicode/utf8.first", "unicode/utf8.acceptRanges"], apart := false, laid := [("unicode/utf8.acceptRanges", laid_unicode_utf8_acceptRanges), ("unicode/utf8.first", laid_unicode_utf8_first)], narrowed := true }
def ResolveFindsUptoSaid : Prop := resolveFindsUptoRow.holds Tryz.pinned (OpenSpec.upto resolveFindsSpec)

/-- 'greatseallaw14.ResolveKept', WHERE WHAT IT READS IS OF BULK AT MOST 1048576: true; the input reads as it did. -/
def resolveKeptUptoRow : OpenClaim := { program := "ytbkgceobmfcapaagreatdoor", sum := "af3d004731d8e09b2754981e1c71f51547ed4b534ef3be7398368fbdceeed4e1", func := "greatseal/greatseallaw14.ResolveKept", spec := "resolveKept", inPlace := ["internal/bytealg.CountString", "internal/bytealg.IndexByteString", "internal/bytealg.IndexString", "internal/bytealg.abigen_runtime_cmpstring", "slices.overlaps[greatseal/api.Kept]"], unfollowed := true, recurses := true, named := ["internal/bytealg.MaxLen", "unicode/utf8.first", "unicode/utf8.acceptRanges"], apart := false, laid := [("unicode/utf8.acceptRanges", laid_unicode_utf8_acceptRanges), ("unicode/utf8.first", laid_unicode_utf8_first)], narrowed := true }
def ResolveKeptUptoSaid : Prop := resolveKeptUptoRow.holds Tryz.pinned (OpenSpec.upto resolveKeptSpec)

/-- 'greatseallaw14.ResolveStands', WHERE WHAT IT READS IS OF BULK AT MOST 1048576: true; the input reads as it did. -/
def resolveStandsUptoRow : OpenClaim := { program := "ytbkgceobmfcapaagreatdoor", sum := "af3d004731d8e09b2754981e1c71f51547ed4b534ef3be7398368fbdceeed4e1", func := "greatseal/greatseallaw14.ResolveStands", spec := "resolveStands", inPlace := ["internal/bytealg.CountString", "internal/bytealg.IndexByteString", "internal/bytealg.IndexString", "internal/bytealg.abigen_runtime_cmpstring", "slices.overlaps[greatseal/api.Kept]"], unfollowed := true, recurses := true, named := ["internal/bytealg.MaxLen", "unicode/utf8.first", "unicode/utf8.acceptRanges"], apart := false, laid := [("unicode/utf8.acceptRanges", laid_unicode_utf8_acceptRanges), ("unicode/utf8.first", laid_unicode_utf8_first)], narrowed := true }
def ResolveStandsUptoSaid : Prop := resolveStandsUptoRow.holds Tryz.pinned (OpenSpec.upto resolveStandsSpec)

/-- 'greatseallaw14.ResolveStays', WHERE WHAT IT READS IS OF BULK AT MOST 1048576: true; the input reads as it did. -/
def resolveStaysUptoRow : OpenClaim := { program := "ytbkgceobmfcapaagreatdoor", sum := "af3d004731d8e09b2754981e1c71f51547ed4b534ef3be7398368fbdceeed4e1", func := "greatseal/greatseallaw14.ResolveStays", spec := "resolveStays", inPlace := ["internal/bytealg.CountString", "internal/bytealg.IndexByteString", "internal/bytealg.IndexString", "internal/bytealg.abigen_runtime_cmpstring", "slices.overlaps[greatseal/api.Kept]"], unfollowed := true, recurses := true, named := ["internal/bytealg.MaxLen", "unicode/utf8.first", "unicode/utf8.acceptRanges"], apart := false, laid := [("unicode/utf8.acceptRanges", laid_unicode_utf8_acceptRanges), ("unicode/utf8.first", laid_unicode_utf8_first)], narrowed := true }
def ResolveStaysUptoSaid : Prop := resolveStaysUptoRow.holds Tryz.pinned (OpenSpec.upto resolveStaysSpec)

/-- 'greatseallaw14.ResolveOthers', WHERE WHAT IT READS IS OF BULK AT MOST 1048576: true; the input reads as it did. -/
def resolveOthersUptoRow : OpenClaim := { program := "ytbkgceobmfcapaagreatdoor", sum := "af3d004731d8e09b2754981e1c71f51547ed4b534ef3be7398368fbdceeed4e1", func := "greatseal/greatseallaw14.ResolveOthers", spec := "resolveOthers", inPlace := ["internal/bytealg.CountString", "internal/bytealg.IndexByteString", "internal/bytealg.IndexString", "internal/bytealg.abigen_runtime_cmpstring", "slices.overlaps[greatseal/api.Kept]"], unfollowed := true, recurses := true, named := ["internal/bytealg.MaxLen", "unicode/utf8.first", "unicode/utf8.acceptRanges"], apart := false, laid := [("unicode/utf8.acceptRanges", laid_unicode_utf8_acceptRanges), ("unicode/utf8.first", laid_unicode_utf8_first)], narrowed := true }
def ResolveOthersUptoSaid : Prop := resolveOthersUptoRow.holds Tryz.pinned (OpenSpec.upto resolveOthersSpec)

/-- 'greatseallaw14.ResolveAlias', WHERE WHAT IT READS IS OF BULK AT MOST 1048576: true; the input reads as it did. -/
def resolveAliasUptoRow : OpenClaim := { program := "ytbkgceobmfcapaagreatdoor", sum := "af3d004731d8e09b2754981e1c71f51547ed4b534ef3be7398368fbdceeed4e1", func := "greatseal/greatseallaw14.ResolveAlias", spec := "resolveAlias", inPlace := ["internal/bytealg.CountString", "internal/bytealg.IndexByteString", "internal/bytealg.IndexString", "internal/bytealg.abigen_runtime_cmpstring", "slices.overlaps[greatseal/api.Kept]"], unfollowed := true, recurses := true, named := ["internal/bytealg.MaxLen", "unicode/utf8.first", "unicode/utf8.acceptRanges"], apart := false, laid := [("unicode/utf8.acceptRanges", laid_unicode_utf8_acceptRanges), ("unicode/utf8.first", laid_unicode_utf8_first)], narrowed := true }
def ResolveAliasUptoSaid : Prop := resolveAliasUptoRow.holds Tryz.pinned (OpenSpec.upto resolveAliasSpec)

/-- 'greatseallaw14.ResolveStraight', WHERE WHAT IT READS IS OF BULK AT MOST 1048576: true; the input reads as it did. -/
def resolveStraightUptoRow : OpenClaim := { program := "ytbkgceobmfcapaagreatdoor", sum := "af3d004731d8e09b2754981e1c71f51547ed4b534ef3be7398368fbdceeed4e1", func := "greatseal/greatseallaw14.ResolveStraight", spec := "resolveStraight", inPlace := ["internal/bytealg.CountString", "internal/bytealg.IndexByteString", "internal/bytealg.IndexString", "internal/bytealg.abigen_runtime_cmpstring", "slices.overlaps[greatseal/api.Kept]"], unfollowed := true, recurses := true, named := ["internal/bytealg.MaxLen", "unicode/utf8.first", "unicode/utf8.acceptRanges"], apart := false, laid := [("unicode/utf8.acceptRanges", laid_unicode_utf8_acceptRanges), ("unicode/utf8.first", laid_unicode_utf8_first)], narrowed := true }
def ResolveStraightUptoSaid : Prop := resolveStraightUptoRow.holds Tryz.pinned (OpenSpec.upto resolveStraightSpec)

end Rows
end Go.Proofs.YtbkgceobmfcapaaGreatDoor
