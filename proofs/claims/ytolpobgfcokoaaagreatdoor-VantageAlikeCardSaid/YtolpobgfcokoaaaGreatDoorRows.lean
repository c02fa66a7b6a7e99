/-
  NARROWER THAN 'FOR EVERY INPUT', by the rows' own cells (each row's printed sentence says how): VantageLooks: laid · VantageCaas: laid · VantageOwn: laid · VantageNeeds: laid · VantageFirst: laid · VantageFree: laid · VantageStays: laid · VantageHonest: laid · VantageAlike: laid.
  DERIVED. THE GIVEN ROWS OF THIS SEAT. 9 by the template 'for every input the law returns true; each argument reads behind the call as it read before'; 0 by the template 'total and deterministic' (their statements: YtolpobgfcokoaaaGreatDoorTotals.lean).
  GIVEN WITH THE SEED: the statements are not yours to turn. If you find one false, say at which input.
  Laid BY PROGRAM, IN A SANDBOX (cutbox-rows.mjs): the forced cells as the released guide's own fill.sh prints them over the translation bbf8ddf146d9da54… (all of the seat's roots in one cut). By AI agents, Wed Nov 11 2026. No macro, syntax, notation, axiom, sorry.
-/
import Derived.Test.YtolpobgfcokoaaaGreatDoorChecked
import GoSem.PinnedTables
import GoSem.Claim
import GoSem.ClaimJoined
import GoSem.ClaimMapViews
import Derived.JoinedTies
import Derived.KernelRfl
namespace Go.Proofs.YtolpobgfcokoaaaGreatDoor
/- THE CELL 'sum', in the pinned program and in every row, IS THE sha256 OF THE DUMP (.gsa) THAT YtolpobgfcokoaaaGreatDoorProg.lean LOADS. Nothing in Lean hashes anything: it is a label: what it is worth is what the hold of that sum in a sandbox is worth. -/
noncomputable def Tryz.pinned : Pinned := { name := "ytolpobgfcokoaaagreatdoor", sum := "bbf8ddf146d9da5451c668de388cd83c8891c3d93507555354736db816a4cfa8", checked := Tryz.checked }
namespace Rows
def none {H : Type} : Left H := { results := [], args := [] }

/- WHAT THE LISTED PACKAGE-LEVEL VARIABLES READ AS WHEN THE CALL BEGINS. Each datum BY PROGRAM (the guide's laid-datum.mjs) off the statement by which the dump's own 'gosem.cut.vars' lays the variable. In a bare row this is a premise. The card (YtolpobgfcokoaaaGreatDoorCards.lean) ties it to the program's text. -/
def laid_unicode_utf8_acceptRanges {H : Type} : DataW H := .agg [.agg [.lit (.int .u8 128), .lit (.int .u8 191)], .agg [.lit (.int .u8 160), .lit (.int .u8 191)], .agg [.lit (.int .u8 128), .lit (.int .u8 159)], .agg [.lit (.int .u8 144), .lit (.int .u8 191)], .agg [.lit (.int .u8 128), .lit (.int .u8 143)], .agg [.lit (.int .u8 0), .lit (.int .u8 0)], .agg [.lit (.int .u8 0), .lit (.int .u8 0)], .agg [.lit (.int .u8 0), .lit (.int .u8 0)], .agg [.lit (.int .u8 0), .lit (.int .u8 0)], .agg [.lit (.int .u8 0), .lit (.int .u8 0)], .agg [.lit (.int .u8 0), .lit (.int .u8 0)], .agg [.lit (.int .u8 0), .lit (.int .u8 0)], .agg [.lit (.int .u8 0), .lit (.int .u8 0)], .agg [.lit (.int .u8 0), .lit (.int .u8 0)], .agg [.lit (.int .u8 0), .lit (.int .u8 0)], .agg [.lit (.int .u8 0), .lit (.int .u8 0)]]
/-- One of Go's own tables, pinned by name: the form's constant. -/
def laid_unicode_utf8_first : DataW Unit := Go.Pinned.utf8First

/-- 'greatseallaw23.VantageLooks': WHATEVER THE INPUT: true; the input reads as it did. -/
def vantageLooksSpec : ChangeSpec := { name := "vantageLooks", fn := fun _ => fun
  | [d1, d2, d3, d4, d5, d6, d7] => { results := [.lit (.bool true)], args := [d1, d2, d3, d4, d5, d6, d7] }
  | _ => none }
def vantageLooksRow : OpenClaim := { program := "ytolpobgfcokoaaagreatdoor", sum := "bbf8ddf146d9da5451c668de388cd83c8891c3d93507555354736db816a4cfa8", func := "greatseal/greatseallaw23.VantageLooks", spec := "vantageLooks", inPlace := ["internal/bytealg.CountString", "internal/bytealg.IndexByteString", "internal/bytealg.IndexString", "internal/bytealg.abigen_runtime_cmpstring", "slices.overlaps[greatseal/api.Kept]"], unfollowed := true, recurses := true, named := ["internal/bytealg.MaxLen", "unicode/utf8.first", "unicode/utf8.acceptRanges"], apart := false, laid := [("unicode/utf8.acceptRanges", laid_unicode_utf8_acceptRanges), ("unicode/utf8.first", laid_unicode_utf8_first)] }
def VantageLooksSaid : Prop := vantageLooksRow.holds Tryz.pinned (OpenSpec.ofChange vantageLooksSpec)

/-- ITS FALSE NEIGHBOUR: 'it returns false'. Refute it at one input. -/
def vantageLooksWrong : ChangeSpec := { name := "vantageLooks", fn := fun _ => fun
  | [d1, d2, d3, d4, d5, d6, d7] => { results := [.lit (.bool false)], args := [d1, d2, d3, d4, d5, d6, d7] }
  | _ => none }
def VantageLooksWrongFalsely : Prop := vantageLooksRow.holds Tryz.pinned (OpenSpec.ofChange vantageLooksWrong)

/-- 'greatseallaw23.VantageCaas': WHATEVER THE INPUT: true; the input reads as it did. -/
def vantageCaasSpec : ChangeSpec := { name := "vantageCaas", fn := fun _ => fun
  | [d1, d2, d3, d4, d5, d6, d7] => { results := [.lit (.bool true)], args := [d1, d2, d3, d4, d5, d6, d7] }
  | _ => none }
def vantageCaasRow : OpenClaim := { program := "ytolpobgfcokoaaagreatdoor", sum := "bbf8ddf146d9da5451c668de388cd83c8891c3d93507555354736db816a4cfa8", func := "greatseal/greatseallaw23.VantageCaas", spec := "vantageCaas", inPlace := ["internal/bytealg.CountString", "internal/bytealg.IndexByteString", "internal/bytealg.IndexString", "internal/bytealg.abigen_runtime_cmpstring", "slices.overlaps[greatseal/api.Kept]"], unfollowed := true, recurses := true, named := ["internal/bytealg.MaxLen", "unicode/utf8.first", "unicode/utf8.acceptRanges"], apart := false, laid := [("unicode/utf8.acceptRanges", laid_unicode_utf8_acceptRanges), ("unicode/utf8.first", laid_unicode_utf8_first)] }
def VantageCaasSaid : Prop := vantageCaasRow.holds Tryz.pinned (OpenSpec.ofChange vantageCaasSpec)

/-- ITS FALSE NEIGHBOUR: 'it returns false'. Refute it at one input. -/
def vantageCaasWrong : ChangeSpec := { name := "vantageCaas", fn := fun _ => fun
  | [d1, d2, d3, d4, d5, d6, d7] => { results := [.lit (.bool false)], args := [d1, d2, d3, d4, d5, d6, d7] }
  | _ => none }
def VantageCaasWrongFalsely : Prop := vantageCaasRow.holds Tryz.pinned (OpenSpec.ofChange vantageCaasWrong)

/-- 'greatseallaw23.VantageOwn': WHATEVER THE INPUT: true; the input reads as it did. -/
def vantageOwnSpec : ChangeSpec := { name := "vantageOwn", fn := fun _ => fun
  | [d1, d2, d3, d4, d5, d6, d7] => { results := [.lit (.bool true)], args := [d1, d2, d3, d4, d5, d6, d7] }
  | _ => none }
def vantageOwnRow : OpenClaim := { program := "ytolpobgfcokoaaagreatdoor", sum := "bbf8ddf146d9da5451c668de388cd83c8891c3d93507555354736db816a4cfa8", func := "greatseal/greatseallaw23.VantageOwn", spec := "vantageOwn", inPlace := ["internal/bytealg.CountString", "internal/bytealg.IndexByteString", "internal/bytealg.IndexString", "internal/bytealg.abigen_runtime_cmpstring", "slices.overlaps[greatseal/api.Kept]"], unfollowed := true, recurses := true, named := ["internal/bytealg.MaxLen", "unicode/utf8.first", "unicode/utf8.acceptRanges"], apart := false, laid := [("unicode/utf8.acceptRanges", laid_unicode_utf8_acceptRanges), ("unicode/utf8.first", laid_unicode_utf8_first)] }
def VantageOwnSaid : Prop := vantageOwnRow.holds Tryz.pinned (OpenSpec.ofChange vantageOwnSpec)

/-- ITS FALSE NEIGHBOUR: 'it returns false'. Refute it at one input. -/
def vantageOwnWrong : ChangeSpec := { name := "vantageOwn", fn := fun _ => fun
  | [d1, d2, d3, d4, d5, d6, d7] => { results := [.lit (.bool false)], args := [d1, d2, d3, d4, d5, d6, d7] }
  | _ => none }
def VantageOwnWrongFalsely : Prop := vantageOwnRow.holds Tryz.pinned (OpenSpec.ofChange vantageOwnWrong)

/-- 'greatseallaw23.VantageNeeds': WHATEVER THE INPUT: true; the input reads as it did. -/
def vantageNeedsSpec : ChangeSpec := { name := "vantageNeeds", fn := fun _ => fun
  | [d1, d2, d3, d4, d5, d6, d7, d8] => { results := [.lit (.bool true)], args := [d1, d2, d3, d4, d5, d6, d7, d8] }
  | _ => none }
def vantageNeedsRow : OpenClaim := { program := "ytolpobgfcokoaaagreatdoor", sum := "bbf8ddf146d9da5451c668de388cd83c8891c3d93507555354736db816a4cfa8", func := "greatseal/greatseallaw23.VantageNeeds", spec := "vantageNeeds", inPlace := ["internal/bytealg.CountString", "internal/bytealg.IndexByteString", "internal/bytealg.IndexString", "internal/bytealg.abigen_runtime_cmpstring", "slices.overlaps[greatseal/api.Kept]"], unfollowed := true, recurses := true, named := ["internal/bytealg.MaxLen", "unicode/utf8.first", "unicode/utf8.acceptRanges"], apart := false, laid := [("unicode/utf8.acceptRanges", laid_unicode_utf8_acceptRanges), ("unicode/utf8.first", laid_unicode_utf8_first)] }
def VantageNeedsSaid : Prop := vantageNeedsRow.holds Tryz.pinned (OpenSpec.ofChange vantageNeedsSpec)

/-- ITS FALSE NEIGHBOUR: 'it returns false'. Refute it at one input. -/
def vantageNeedsWrong : ChangeSpec := { name := "vantageNeeds", fn := fun _ => fun
  | [d1, d2, d3, d4, d5, d6, d7, d8] => { results := [.lit (.bool false)], args := [d1, d2, d3, d4, d5, d6, d7, d8] }
  | _ => none }
def VantageNeedsWrongFalsely : Prop := vantageNeedsRow.holds Tryz.pinned (OpenSpec.ofChange vantageNeedsWrong)

/-- 'greatseallaw23.VantageFirst': WHATEVER THE INPUT: true; the input reads as it did. -/
def vantageFirstSpec : ChangeSpec := { name := "vantageFirst", fn := fun _ => fun
  | [d1, d2, d3, d4, d5] => { results := [.lit (.bool true)], args := [d1, d2, d3, d4, d5] }
  | _ => none }
def vantageFirstRow : OpenClaim := { program := "ytolpobgfcokoaaagreatdoor", sum := "bbf8ddf146d9da5451c668de388cd83c8891c3d93507555354736db816a4cfa8", func := "greatseal/greatseallaw23.VantageFirst", spec := "vantageFirst", inPlace := ["internal/bytealg.CountString", "internal/bytealg.IndexByteString", "internal/bytealg.IndexString", "internal/bytealg.abigen_runtime_cmpstring", "slices.overlaps[greatseal/api.Kept]"], unfollowed := true, recurses := true, named := ["internal/bytealg.MaxLen", "unicode/utf8.first", "unicode/utf8.acceptRanges"], apart := false, laid := [("unicode/utf8.acceptRanges", laid_unicode_utf8_acceptRanges), ("unicode/utf8.first", laid_unicode_utf8_first)] }
def VantageFirstSaid : Prop := vantageFirstRow.holds Tryz.pinned (OpenSpec.ofChange vantageFirstSpec)

/-- ITS FALSE NEIGHBOUR: 'it returns false'. Refute it at one input. -/
def vantageFirstWrong : ChangeSpec := { name := "vantageFirst", fn := fun _ => fun
  | [d1, d2, d3, d4, d5] => { results := [.lit (.bool false)], args := [d1, d2, d3, d4, d5] }
  | _ => none }
def VantageFirstWrongFalsely : Prop := vantageFirstRow.holds Tryz.pinned (OpenSpec.ofChange vantageFirstWrong)

/-- 'greatseallaw23.VantageFree': WHATEVER THE INPUT: true; the input reads as it did. -/
def vantageFreeSpec : ChangeSpec := { name := "vantageFree", fn := fun _ => fun
  | [d1, d2, d3, d4, d5] => { results := [.lit (.bool true)], args := [d1, d2, d3, d4, d5] }
  | _ => none }
def vantageFreeRow : OpenClaim := { program := "ytolpobgfcokoaaagreatdoor", sum := "bbf8ddf146d9da5451c668de388cd83c8891c3d93507555354736db816a4cfa8", func := "greatseal/greatseallaw23.VantageFree", spec := "vantageFree", inPlace := ["internal/bytealg.CountString", "internal/bytealg.IndexByteString", "internal/bytealg.IndexString", "internal/bytealg.abigen_runtime_cmpstring", "slices.overlaps[greatseal/api.Kept]"], unfollowed := true, recurses := true, named := ["internal/bytealg.MaxLen", "unicode/utf8.first", "unicode/utf8.acceptRanges"], apart := false, laid := [("unicode/utf8.acceptRanges", laid_unicode_utf8_acceptRanges), ("unicode/utf8.first", laid_unicode_utf8_first)] }
def VantageFreeSaid : Prop := vantageFreeRow.holds Tryz.pinned (OpenSpec.ofChange vantageFreeSpec)

/-- ITS FALSE NEIGHBOUR: 'it returns false'. Refute it at one input. -/
def vantageFreeWrong : ChangeSpec := { name := "vantageFree", fn := fun _ => fun
  | [d1, d2, d3, d4, d5] => { results := [.lit (.bool false)], args := [d1, d2, d3, d4, d5] }
  | _ => none }
def VantageFreeWrongFalsely : Prop := vantageFreeRow.holds Tryz.pinned (OpenSpec.ofChange vantageFreeWrong)

/-- 'greatseallaw23.VantageStays': WHATEVER THE INPUT: true; the input reads as it did. -/
def vantageStaysSpec : ChangeSpec := { name := "vantageStays", fn := fun _ => fun
  | [d1, d2, d3, d4, d5, d6, d7] => { results := [.lit (.bool true)], args := [d1, d2, d3, d4, d5, d6, d7] }
  | _ => none }
def vantageStaysRow : OpenClaim := { program := "ytolpobgfcokoaaagreatdoor", sum := "bbf8ddf146d9da5451c668de388cd83c8891c3d93507555354736db816a4cfa8", func := "greatseal/greatseallaw23.VantageStays", spec := "vantageStays", inPlace := ["internal/bytealg.CountString", "internal/bytealg.IndexByteString", "internal/bytealg.IndexString", "internal/bytealg.abigen_runtime_cmpstring", "slices.overlaps[greatseal/api.Kept]"], unfollowed := true, recurses := true, named := ["internal/bytealg.MaxLen", "unicode/utf8.first", "unicode/utf8.acceptRanges"], apart := false, laid := [("unicode/utf8.acceptRanges", laid_unicode_utf8_acceptRanges), ("unicode/utf8.first", laid_unicode_utf8_first)] }
def VantageStaysSaid : Prop := vantageStaysRow.holds Tryz.pinned (OpenSpec.ofChange vantageStaysSpec)

/-- ITS FALSE NEIGHBOUR: 'it returns false'. Refute it at one input. -/
def vantageStaysWrong : ChangeSpec := { name := "vantageStays", fn := fun _ => fun
  | [d1, d2, d3, d4, d5, d6, d7] => { results := [.lit (.bool false)], args := [d1, d2, d3, d4, d5, d6, d7] }
  | _ => none }
def VantageStaysWrongFalsely : Prop := vantageStaysRow.holds Tryz.pinned (OpenSpec.ofChange vantageStaysWrong)

/-- 'greatseallaw23.VantageHonest': WHATEVER THE INPUT: true; the input reads as it did. -/
def vantageHonestSpec : ChangeSpec := { name := "vantageHonest", fn := fun _ => fun
  | [d1, d2, d3, d4, d5, d6] => { results := [.lit (.bool true)], args := [d1, d2, d3, d4, d5, d6] }
  | _ => none }
def vantageHonestRow : OpenClaim := { program := "ytolpobgfcokoaaagreatdoor", sum := "bbf8ddf146d9da5451c668de388cd83c8891c3d93507555354736db816a4cfa8", func := "greatseal/greatseallaw23.VantageHonest", spec := "vantageHonest", inPlace := ["internal/bytealg.CountString", "internal/bytealg.IndexByteString", "internal/bytealg.IndexString", "internal/bytealg.abigen_runtime_cmpstring", "slices.overlaps[greatseal/api.Kept]"], unfollowed := true, recurses := true, named := ["internal/bytealg.MaxLen", "unicode/utf8.first", "unicode/utf8.acceptRanges"], apart := false, laid := [("unicode/utf8.acceptRanges", laid_unicode_utf8_acceptRanges), ("unicode/utf8.first", laid_unicode_utf8_first)] }
def VantageHonestSaid : Prop := vantageHonestRow.holds Tryz.pinned (OpenSpec.ofChange vantageHonestSpec)

/-- ITS FALSE NEIGHBOUR: 'it returns false'. Refute it at one input. -/
def vantageHonestWrong : ChangeSpec := { name := "vantageHonest", fn := fun _ => fun
  | [d1, d2, d3, d4, d5, d6] => { results := [.lit (.bool false)], args := [d1, d2, d3, d4, d5, d6] }
  | _ => none }
def VantageHonestWrongFalsely : Prop := vantageHonestRow.holds Tryz.pinned (OpenSpec.ofChange vantageHonestWrong)

/-- 'greatseallaw23.VantageAlike': WHATEVER THE INPUT: true; the input reads as it did. -/
def vantageAlikeSpec : ChangeSpec := { name := "vantageAlike", fn := fun _ => fun
  | [d1, d2, d3, d4, d5] => { results := [.lit (.bool true)], args := [d1, d2, d3, d4, d5] }
  | _ => none }
def vantageAlikeRow : OpenClaim := { program := "ytolpobgfcokoaaagreatdoor", sum := "bbf8ddf146d9da5451c668de388cd83c8891c3d93507555354736db816a4cfa8", func := "greatseal/greatseallaw23.VantageAlike", spec := "vantageAlike", inPlace := ["internal/bytealg.CountString", "internal/bytealg.IndexByteString", "internal/bytealg.IndexString", "internal/bytealg.abigen_runtime_cmpstring", "slices.overlaps[greatseal/api.Kept]"], unfollowed := true, recurses := true, named := ["internal/bytealg.MaxLen", "unicode/utf8.first", "unicode/utf8.acceptRanges"], apart := false, laid := [("unicode/utf8.acceptRanges", laid_unicode_utf8_acceptRanges), ("unicode/utf8.first", laid_unicode_utf8_first)] }
def VantageAlikeSaid : Prop := vantageAlikeRow.holds Tryz.pinned (OpenSpec.ofChange vantageAlikeSpec)

/-- ITS FALSE NEIGHBOUR: 'it returns false'. Refute it at one input. -/
def vantageAlikeWrong : ChangeSpec := { name := "vantageAlike", fn := fun _ => fun
  | [d1, d2, d3, d4, d5] => { results := [.lit (.bool false)], args := [d1, d2, d3, d4, d5] }
  | _ => none }
def VantageAlikeWrongFalsely : Prop := vantageAlikeRow.holds Tryz.pinned (OpenSpec.ofChange vantageAlikeWrong)

/- THE SECOND FORM. 'bulk': how many values and letters a reading holds, each counted each time it is reached (what is shared counts as often as it is met; a slice's spare places count too). A statement '..UptoSaid' is the law's where the arguments, and the package variables that the reading takes, are together of bulk at most 1048576: NARROWER than '..Said'. Prove '..Said' where nothing that the law and all that it calls make is longer than what came in: it says more and counts as full. Else prove '..UptoSaid'. A law counts once. -/
mutual
def uptoBulk {H : Type} : DataW H → Nat
  | .lit (.string bytes) => bytes.length + 1
  | .lit _ => 1
  | .nil => 1
  | .ptr d => uptoBulk d + 1
  | .slice elems spare => uptoBulkAll elems + uptoBulkAll spare + 1
  | .agg parts => uptoBulkAll parts + 1
  | .iface _ d => uptoBulk d + 1
  | .map entries => uptoBulkEntries entries + 1
  | .held _ => 1
def uptoBulkAll {H : Type} : List (DataW H) → Nat
  | [] => 0
  | d :: r => uptoBulk d + uptoBulkAll r
def uptoBulkEntries {H : Type} : List (Lit × DataW H) → Nat
  | [] => 0
  | x :: r => uptoBulkEntry x + uptoBulkEntries r
def uptoBulkEntry {H : Type} : Lit × DataW H → Nat
  | (.string bytes, d) => bytes.length + uptoBulk d + 1
  | (_, d) => uptoBulk d + 1
 end
def uptoSmall : (H : Type) → List (DataW H) → Bool := fun _ ds => decide (uptoBulkAll ds ≤ 1048576)
def OpenSpec.upto (s : _root_.Go.ChangeSpec) : _root_.Go.OpenSpec := { _root_.Go.OpenSpec.ofChange s with cond := some uptoSmall }

/-- 'greatseallaw23.VantageLooks', WHERE WHAT IT READS IS OF BULK AT MOST 1048576: true; the input reads as it did. -/
def vantageLooksUptoRow : OpenClaim := { program := "ytolpobgfcokoaaagreatdoor", sum := "bbf8ddf146d9da5451c668de388cd83c8891c3d93507555354736db816a4cfa8", func := "greatseal/greatseallaw23.VantageLooks", spec := "vantageLooks", inPlace := ["internal/bytealg.CountString", "internal/bytealg.IndexByteString", "internal/bytealg.IndexString", "internal/bytealg.abigen_runtime_cmpstring", "slices.overlaps[greatseal/api.Kept]"], unfollowed := true, recurses := true, named := ["internal/bytealg.MaxLen", "unicode/utf8.first", "unicode/utf8.acceptRanges"], apart := false, laid := [("unicode/utf8.acceptRanges", laid_unicode_utf8_acceptRanges), ("unicode/utf8.first", laid_unicode_utf8_first)], narrowed := true }
def VantageLooksUptoSaid : Prop := vantageLooksUptoRow.holds Tryz.pinned (OpenSpec.upto vantageLooksSpec)

/-- 'greatseallaw23.VantageCaas', WHERE WHAT IT READS IS OF BULK AT MOST 1048576: true; the input reads as it did. -/
def vantageCaasUptoRow : OpenClaim := { program := "ytolpobgfcokoaaagreatdoor", sum := "bbf8ddf146d9da5451c668de388cd83c8891c3d93507555354736db816a4cfa8", func := "greatseal/greatseallaw23.VantageCaas", spec := "vantageCaas", inPlace := ["internal/bytealg.CountString", "internal/bytealg.IndexByteString", "internal/bytealg.IndexString", "internal/bytealg.abigen_runtime_cmpstring", "slices.overlaps[greatseal/api.Kept]"], unfollowed := true, recurses := true, named := ["internal/bytealg.MaxLen", "unicode/utf8.first", "unicode/utf8.acceptRanges"], apart := false, laid := [("unicode/utf8.acceptRanges", laid_unicode_utf8_acceptRanges), ("unicode/utf8.first", laid_unicode_utf8_first)], narrowed := true }
def VantageCaasUptoSaid : Prop := vantageCaasUptoRow.holds Tryz.pinned (OpenSpec.upto vantageCaasSpec)

/-- 'greatseallaw23.VantageOwn', WHERE WHAT IT READS IS OF BULK AT MOST 1048576: true; the input reads as it did. -/
def vantageOwnUptoRow : OpenClaim := { program := "ytolpobgfcokoaaagreatdoor", sum := "bbf8ddf146d9da5451c668de388cd83c8891c3d93507555354736db816a4cfa8", func := "greatseal/greatseallaw23.VantageOwn", spec := "vantageOwn", inPlace := ["internal/bytealg.CountString", "internal/bytealg.IndexByteString", "internal/bytealg.IndexString", "internal/bytealg.abigen_runtime_cmpstring", "slices.overlaps[greatseal/api.Kept]"], unfollowed := true, recurses := true, named := ["internal/bytealg.MaxLen", "unicode/utf8.first", "unicode/utf8.acceptRanges"], apart := false, laid := [("unicode/utf8.acceptRanges", laid_unicode_utf8_acceptRanges), ("unicode/utf8.first", laid_unicode_utf8_first)], narrowed := true }
def VantageOwnUptoSaid : Prop := vantageOwnUptoRow.holds Tryz.pinned (OpenSpec.upto vantageOwnSpec)

/-- 'greatseallaw23.VantageNeeds', WHERE WHAT IT READS IS OF BULK AT MOST 1048576: true; the input reads as it did. -/
def vantageNeedsUptoRow : OpenClaim := { program := "ytolpobgfcokoaaagreatdoor", sum := "bbf8ddf146d9da5451c668de388cd83c8891c3d93507555354736db816a4cfa8", func := "greatseal/greatseallaw23.VantageNeeds", spec := "vantageNeeds", inPlace := ["internal/bytealg.CountString", "internal/bytealg.IndexByteString", "internal/bytealg.IndexString", "internal/bytealg.abigen_runtime_cmpstring", "slices.overlaps[greatseal/api.Kept]"], unfollowed := true, recurses := true, named := ["internal/bytealg.MaxLen", "unicode/utf8.first", "unicode/utf8.acceptRanges"], apart := false, laid := [("unicode/utf8.acceptRanges", laid_unicode_utf8_acceptRanges), ("unicode/utf8.first", laid_unicode_utf8_first)], narrowed := true }
def VantageNeedsUptoSaid : Prop := vantageNeedsUptoRow.holds Tryz.pinned (OpenSpec.upto vantageNeedsSpec)

/-- 'greatseallaw23.VantageFirst', WHERE WHAT IT READS IS OF BULK AT MOST 1048576: true; the input reads as it did. -/
def vantageFirstUptoRow : OpenClaim := { program := "ytolpobgfcokoaaagreatdoor", sum := "bbf8ddf146d9da5451c668de388cd83c8891c3d93507555354736db816a4cfa8", func := "greatseal/greatseallaw23.VantageFirst", spec := "vantageFirst", inPlace := ["internal/bytealg.CountString", "internal/bytealg.IndexByteString", "internal/bytealg.IndexString", "internal/bytealg.abigen_runtime_cmpstring", "slices.overlaps[greatseal/api.Kept]"], unfollowed := true, recurses := true, named := ["internal/bytealg.MaxLen", "unicode/utf8.first", "unicode/utf8.acceptRanges"], apart := false, laid := [("unicode/utf8.acceptRanges", laid_unicode_utf8_acceptRanges), ("unicode/utf8.first", laid_unicode_utf8_first)], narrowed := true }
def VantageFirstUptoSaid : Prop := vantageFirstUptoRow.holds Tryz.pinned (OpenSpec.upto vantageFirstSpec)

/-- 'greatseallaw23.VantageFree', WHERE WHAT IT READS IS OF BULK AT MOST 1048576: true; the input reads as it did. -/
def vantageFreeUptoRow : OpenClaim := { program := "ytolpobgfcokoaaagreatdoor", sum := "bbf8ddf146d9da5451c668de388cd83c8891c3d93507555354736db816a4cfa8", func := "greatseal/greatseallaw23.VantageFree", spec := "vantageFree", inPlace := ["internal/bytealg.CountString", "internal/bytealg.IndexByteString", "internal/bytealg.IndexString", "internal/bytealg.abigen_runtime_cmpstring", "slices.overlaps[greatseal/api.Kept]"], unfollowed := true, recurses := true, named := ["internal/bytealg.MaxLen", "unicode/utf8.first", "unicode/utf8.acceptRanges"], apart := false, laid := [("unicode/utf8.acceptRanges", laid_unicode_utf8_acceptRanges), ("unicode/utf8.first", laid_unicode_utf8_first)], narrowed := true }
def VantageFreeUptoSaid : Prop := vantageFreeUptoRow.holds Tryz.pinned (OpenSpec.upto vantageFreeSpec)

/-- 'greatseallaw23.VantageStays', WHERE WHAT IT READS IS OF BULK AT MOST 1048576: true; the input reads as it did. -/
def vantageStaysUptoRow : OpenClaim := { program := "ytolpobgfcokoaaagreatdoor", sum := "bbf8ddf146d9da5451c668de388cd83c8891c3d93507555354736db816a4cfa8", func := "greatseal/greatseallaw23.VantageStays", spec := "vantageStays", inPlace := ["internal/bytealg.CountString", "internal/bytealg.IndexByteString", "internal/bytealg.IndexString", "internal/bytealg.abigen_runtime_cmpstring", "slices.overlaps[greatseal/api.Kept]"], unfollowed := true, recurses := true, named := ["internal/bytealg.MaxLen", "unicode/utf8.first", "unicode/utf8.acceptRanges"], apart := false, laid := [("unicode/utf8.acceptRanges", laid_unicode_utf8_acceptRanges), ("unicode/utf8.first", laid_unicode_utf8_first)], narrowed := true }
def VantageStaysUptoSaid : Prop := vantageStaysUptoRow.holds Tryz.pinned (OpenSpec.upto vantageStaysSpec)

/-- 'greatseallaw23.VantageHonest', WHERE WHAT IT READS IS OF BULK AT MOST 1048576: true; the input reads as it did. -/
def vantageHonestUptoRow : OpenClaim := { program := "ytolpobgfcokoaaagreatdoor", sum := "bbf8ddf146d9da5451c668de388cd83c8891c3d93507555354736db816a4cfa8", func := "greatseal/greatseallaw23.VantageHonest", spec := "vantageHonest", inPlace := ["internal/bytealg.CountString", "internal/bytealg.IndexByteString", "internal/bytealg.IndexString", "internal/bytealg.abigen_runtime_cmpstring", "slices.overlaps[greatseal/api.Kept]"], unfollowed := true, recurses := true, named := ["internal/bytealg.MaxLen", "unicode/utf8.first", "unicode/utf8.acceptRanges"], apart := false, laid := [("unicode/utf8.acceptRanges", laid_unicode_utf8_acceptRanges), ("unicode/utf8.first", laid_unicode_utf8_first)], narrowed := true }
def VantageHonestUptoSaid : Prop := vantageHonestUptoRow.holds Tryz.pinned (OpenSpec.upto vantageHonestSpec)

/-- 'greatseallaw23.VantageAlike', WHERE WHAT IT READS IS OF BULK AT MOST 1048576: true; the input reads as it did. -/
def vantageAlikeUptoRow : OpenClaim := { program := "ytolpobgfcokoaaagreatdoor", sum := "bbf8ddf146d9da5451c668de388cd83c8891c3d93507555354736db816a4cfa8", func := "greatseal/greatseallaw23.VantageAlike", spec := "vantageAlike", inPlace := ["internal/bytealg.CountString", "internal/bytealg.IndexByteString", "internal/bytealg.IndexString", "internal/bytealg.abigen_runtime_cmpstring", "slices.overlaps[greatseal/api.Kept]"], unfollowed := true, recurses := true, named := ["internal/bytealg.MaxLen", "unicode/utf8.first", "unicode/utf8.acceptRanges"], apart := false, laid := [("unicode/utf8.acceptRanges", laid_unicode_utf8_acceptRanges), ("unicode/utf8.first", laid_unicode_utf8_first)], narrowed := true }
def VantageAlikeUptoSaid : Prop := vantageAlikeUptoRow.holds Tryz.pinned (OpenSpec.upto vantageAlikeSpec)

end Rows
end Go.Proofs.YtolpobgfcokoaaaGreatDoor
