/-
  NARROWER THAN 'FOR EVERY INPUT', by the rows' own cells (each row's printed sentence says how): ZoneAsks: laid · ZoneBests: laid · ZoneAll: laid · ZoneCuts: laid · ZoneOrder: laid · ZoneNearest: laid · ZonePuts: laid · ZoneTells: laid · ZoneBack: laid.
  DERIVED. THE GIVEN ROWS OF THIS SEAT. 9 by the template 'for every input the law returns true; each argument reads behind the call as it read before'; 0 by the template 'total and deterministic' (their statements: YtfgejhlgenaniaaDoorTotals.lean).
  GIVEN WITH THE SEED: the statements are not yours to turn. If you find one false, say at which input.
  Laid BY PROGRAM, IN A SANDBOX (cutbox-rows.mjs): the forced cells as the released guide's own fill.sh prints them over the translation a92ada987630ce57… (all of the seat's roots in one cut). By AI agents, Wed Nov 11 2026. No macro, syntax, notation, axiom, sorry.
-/
import Derived.Test.YtfgejhlgenaniaaDoorChecked
import GoSem.PinnedTables
import GoSem.Claim
import GoSem.ClaimJoined
import GoSem.ClaimMapViews
import Derived.JoinedTies
import Derived.KernelRfl
namespace Go.Proofs.YtfgejhlgenaniaaDoor
/- THE CELL 'sum', in the pinned program and in every row, IS THE sha256 OF THE DUMP (.gsa) THAT YtfgejhlgenaniaaDoorProg.lean LOADS. Nothing in Lean hashes anything: it is a label: what it is worth is what the hold of that sum in a sandbox is worth. -/
noncomputable def Tryd.pinned : Pinned := { name := "ytfgejhlgenaniaadoor", sum := "a92ada987630ce575f72a6496bf4829594c45113035f428aa16452460f260954", checked := Tryd.checked }
namespace Rows
def none {H : Type} : Left H := { results := [], args := [] }

/- WHAT THE LISTED PACKAGE-LEVEL VARIABLES READ AS WHEN THE CALL BEGINS. Each datum BY PROGRAM (the guide's laid-datum.mjs) off the statement by which the dump's own 'gosem.cut.vars' lays the variable. In a bare row this is a premise. The card (YtfgejhlgenaniaaDoorCards.lean) ties it to the program's text. -/
def laid_unicode_utf8_acceptRanges {H : Type} : DataW H := .agg [.agg [.lit (.int .u8 128), .lit (.int .u8 191)], .agg [.lit (.int .u8 160), .lit (.int .u8 191)], .agg [.lit (.int .u8 128), .lit (.int .u8 159)], .agg [.lit (.int .u8 144), .lit (.int .u8 191)], .agg [.lit (.int .u8 128), .lit (.int .u8 143)], .agg [.lit (.int .u8 0), .lit (.int .u8 0)], .agg [.lit (.int .u8 0), .lit (.int .u8 0)], .agg [.lit (.int .u8 0), .lit (.int .u8 0)], .agg [.lit (.int .u8 0), .lit (.int .u8 0)], .agg [.lit (.int .u8 0), .lit (.int .u8 0)], .agg [.lit (.int .u8 0), .lit (.int .u8 0)], .agg [.lit (.int .u8 0), .lit (.int .u8 0)], .agg [.lit (.int .u8 0), .lit (.int .u8 0)], .agg [.lit (.int .u8 0), .lit (.int .u8 0)], .agg [.lit (.int .u8 0), .lit (.int .u8 0)], .agg [.lit (.int .u8 0), .lit (.int .u8 0)]]
/-- One of Go's own tables, pinned by name: the form's constant. -/
def laid_unicode_utf8_first : DataW Unit := Go.Pinned.utf8First

/-- 'greatseallaw12.ZoneAsks': WHATEVER THE INPUT: true; the input reads as it did. -/
def zoneAsksSpec : ChangeSpec := { name := "zoneAsks", fn := fun _ => fun
  | [d1, d2, d3] => { results := [.lit (.bool true)], args := [d1, d2, d3] }
  | _ => none }
def zoneAsksRow : OpenClaim := { program := "ytfgejhlgenaniaadoor", sum := "a92ada987630ce575f72a6496bf4829594c45113035f428aa16452460f260954", func := "greatseal/greatseallaw12.ZoneAsks", spec := "zoneAsks", inPlace := ["internal/bytealg.CountString", "internal/bytealg.IndexByteString", "internal/bytealg.IndexString", "internal/bytealg.abigen_runtime_cmpstring", "slices.overlaps[greatseal/api.Rec]"], unfollowed := true, recurses := true, named := ["internal/bytealg.MaxLen", "unicode/utf8.first", "unicode/utf8.acceptRanges"], apart := false, laid := [("unicode/utf8.acceptRanges", laid_unicode_utf8_acceptRanges), ("unicode/utf8.first", laid_unicode_utf8_first)] }
def ZoneAsksSaid : Prop := zoneAsksRow.holds Tryd.pinned (OpenSpec.ofChange zoneAsksSpec)

/-- ITS FALSE NEIGHBOUR: 'it returns false'. Refute it at one input. -/
def zoneAsksWrong : ChangeSpec := { name := "zoneAsks", fn := fun _ => fun
  | [d1, d2, d3] => { results := [.lit (.bool false)], args := [d1, d2, d3] }
  | _ => none }
def ZoneAsksWrongFalsely : Prop := zoneAsksRow.holds Tryd.pinned (OpenSpec.ofChange zoneAsksWrong)

/-- 'greatseallaw12.ZoneBests': WHATEVER THE INPUT: true; the input reads as it did. -/
def zoneBestsSpec : ChangeSpec := { name := "zoneBests", fn := fun _ => fun
  | [d1, d2] => { results := [.lit (.bool true)], args := [d1, d2] }
  | _ => none }
def zoneBestsRow : OpenClaim := { program := "ytfgejhlgenaniaadoor", sum := "a92ada987630ce575f72a6496bf4829594c45113035f428aa16452460f260954", func := "greatseal/greatseallaw12.ZoneBests", spec := "zoneBests", inPlace := ["internal/bytealg.CountString", "internal/bytealg.IndexByteString", "internal/bytealg.IndexString", "internal/bytealg.abigen_runtime_cmpstring", "slices.overlaps[greatseal/api.Rec]"], unfollowed := true, recurses := true, named := ["internal/bytealg.MaxLen", "unicode/utf8.first", "unicode/utf8.acceptRanges"], apart := false, laid := [("unicode/utf8.acceptRanges", laid_unicode_utf8_acceptRanges), ("unicode/utf8.first", laid_unicode_utf8_first)] }
def ZoneBestsSaid : Prop := zoneBestsRow.holds Tryd.pinned (OpenSpec.ofChange zoneBestsSpec)

/-- ITS FALSE NEIGHBOUR: 'it returns false'. Refute it at one input. -/
def zoneBestsWrong : ChangeSpec := { name := "zoneBests", fn := fun _ => fun
  | [d1, d2] => { results := [.lit (.bool false)], args := [d1, d2] }
  | _ => none }
def ZoneBestsWrongFalsely : Prop := zoneBestsRow.holds Tryd.pinned (OpenSpec.ofChange zoneBestsWrong)

/-- 'greatseallaw12.ZoneAll': WHATEVER THE INPUT: true; the input reads as it did. -/
def zoneAllSpec : ChangeSpec := { name := "zoneAll", fn := fun _ => fun
  | [d1, d2, d3] => { results := [.lit (.bool true)], args := [d1, d2, d3] }
  | _ => none }
def zoneAllRow : OpenClaim := { program := "ytfgejhlgenaniaadoor", sum := "a92ada987630ce575f72a6496bf4829594c45113035f428aa16452460f260954", func := "greatseal/greatseallaw12.ZoneAll", spec := "zoneAll", inPlace := ["internal/bytealg.CountString", "internal/bytealg.IndexByteString", "internal/bytealg.IndexString", "internal/bytealg.abigen_runtime_cmpstring", "slices.overlaps[greatseal/api.Rec]"], unfollowed := true, recurses := true, named := ["internal/bytealg.MaxLen", "unicode/utf8.first", "unicode/utf8.acceptRanges"], apart := false, laid := [("unicode/utf8.acceptRanges", laid_unicode_utf8_acceptRanges), ("unicode/utf8.first", laid_unicode_utf8_first)] }
def ZoneAllSaid : Prop := zoneAllRow.holds Tryd.pinned (OpenSpec.ofChange zoneAllSpec)

/-- ITS FALSE NEIGHBOUR: 'it returns false'. Refute it at one input. -/
def zoneAllWrong : ChangeSpec := { name := "zoneAll", fn := fun _ => fun
  | [d1, d2, d3] => { results := [.lit (.bool false)], args := [d1, d2, d3] }
  | _ => none }
def ZoneAllWrongFalsely : Prop := zoneAllRow.holds Tryd.pinned (OpenSpec.ofChange zoneAllWrong)

/-- 'greatseallaw12.ZoneCuts': WHATEVER THE INPUT: true; the input reads as it did. -/
def zoneCutsSpec : ChangeSpec := { name := "zoneCuts", fn := fun _ => fun
  | [d1, d2, d3] => { results := [.lit (.bool true)], args := [d1, d2, d3] }
  | _ => none }
def zoneCutsRow : OpenClaim := { program := "ytfgejhlgenaniaadoor", sum := "a92ada987630ce575f72a6496bf4829594c45113035f428aa16452460f260954", func := "greatseal/greatseallaw12.ZoneCuts", spec := "zoneCuts", inPlace := ["internal/bytealg.CountString", "internal/bytealg.IndexByteString", "internal/bytealg.IndexString", "internal/bytealg.abigen_runtime_cmpstring", "slices.overlaps[greatseal/api.Rec]"], unfollowed := true, recurses := true, named := ["internal/bytealg.MaxLen", "unicode/utf8.first", "unicode/utf8.acceptRanges"], apart := false, laid := [("unicode/utf8.acceptRanges", laid_unicode_utf8_acceptRanges), ("unicode/utf8.first", laid_unicode_utf8_first)] }
def ZoneCutsSaid : Prop := zoneCutsRow.holds Tryd.pinned (OpenSpec.ofChange zoneCutsSpec)

/-- ITS FALSE NEIGHBOUR: 'it returns false'. Refute it at one input. -/
def zoneCutsWrong : ChangeSpec := { name := "zoneCuts", fn := fun _ => fun
  | [d1, d2, d3] => { results := [.lit (.bool false)], args := [d1, d2, d3] }
  | _ => none }
def ZoneCutsWrongFalsely : Prop := zoneCutsRow.holds Tryd.pinned (OpenSpec.ofChange zoneCutsWrong)

/-- 'greatseallaw12.ZoneOrder': WHATEVER THE INPUT: true; the input reads as it did. -/
def zoneOrderSpec : ChangeSpec := { name := "zoneOrder", fn := fun _ => fun
  | [d1, d2, d3] => { results := [.lit (.bool true)], args := [d1, d2, d3] }
  | _ => none }
def zoneOrderRow : OpenClaim := { program := "ytfgejhlgenaniaadoor", sum := "a92ada987630ce575f72a6496bf4829594c45113035f428aa16452460f260954", func := "greatseal/greatseallaw12.ZoneOrder", spec := "zoneOrder", inPlace := ["internal/bytealg.CountString", "internal/bytealg.IndexByteString", "internal/bytealg.IndexString", "internal/bytealg.abigen_runtime_cmpstring", "slices.overlaps[greatseal/api.Rec]"], unfollowed := true, recurses := true, named := ["internal/bytealg.MaxLen", "unicode/utf8.first", "unicode/utf8.acceptRanges"], apart := false, laid := [("unicode/utf8.acceptRanges", laid_unicode_utf8_acceptRanges), ("unicode/utf8.first", laid_unicode_utf8_first)] }
def ZoneOrderSaid : Prop := zoneOrderRow.holds Tryd.pinned (OpenSpec.ofChange zoneOrderSpec)

/-- ITS FALSE NEIGHBOUR: 'it returns false'. Refute it at one input. -/
def zoneOrderWrong : ChangeSpec := { name := "zoneOrder", fn := fun _ => fun
  | [d1, d2, d3] => { results := [.lit (.bool false)], args := [d1, d2, d3] }
  | _ => none }
def ZoneOrderWrongFalsely : Prop := zoneOrderRow.holds Tryd.pinned (OpenSpec.ofChange zoneOrderWrong)

/-- 'greatseallaw12.ZoneNearest': WHATEVER THE INPUT: true; the input reads as it did. -/
def zoneNearestSpec : ChangeSpec := { name := "zoneNearest", fn := fun _ => fun
  | [d1, d2] => { results := [.lit (.bool true)], args := [d1, d2] }
  | _ => none }
def zoneNearestRow : OpenClaim := { program := "ytfgejhlgenaniaadoor", sum := "a92ada987630ce575f72a6496bf4829594c45113035f428aa16452460f260954", func := "greatseal/greatseallaw12.ZoneNearest", spec := "zoneNearest", inPlace := ["internal/bytealg.CountString", "internal/bytealg.IndexByteString", "internal/bytealg.IndexString", "internal/bytealg.abigen_runtime_cmpstring", "slices.overlaps[greatseal/api.Rec]"], unfollowed := true, recurses := true, named := ["internal/bytealg.MaxLen", "unicode/utf8.first", "unicode/utf8.acceptRanges"], apart := false, laid := [("unicode/utf8.acceptRanges", laid_unicode_utf8_acceptRanges), ("unicode/utf8.first", laid_unicode_utf8_first)] }
def ZoneNearestSaid : Prop := zoneNearestRow.holds Tryd.pinned (OpenSpec.ofChange zoneNearestSpec)

/-- ITS FALSE NEIGHBOUR: 'it returns false'. Refute it at one input. -/
def zoneNearestWrong : ChangeSpec := { name := "zoneNearest", fn := fun _ => fun
  | [d1, d2] => { results := [.lit (.bool false)], args := [d1, d2] }
  | _ => none }
def ZoneNearestWrongFalsely : Prop := zoneNearestRow.holds Tryd.pinned (OpenSpec.ofChange zoneNearestWrong)

/-- 'greatseallaw12.ZonePuts': WHATEVER THE INPUT: true; the input reads as it did. -/
def zonePutsSpec : ChangeSpec := { name := "zonePuts", fn := fun _ => fun
  | [d1, d2, d3] => { results := [.lit (.bool true)], args := [d1, d2, d3] }
  | _ => none }
def zonePutsRow : OpenClaim := { program := "ytfgejhlgenaniaadoor", sum := "a92ada987630ce575f72a6496bf4829594c45113035f428aa16452460f260954", func := "greatseal/greatseallaw12.ZonePuts", spec := "zonePuts", inPlace := ["internal/bytealg.CountString", "internal/bytealg.IndexByteString", "internal/bytealg.IndexString", "internal/bytealg.abigen_runtime_cmpstring", "slices.overlaps[greatseal/api.Rec]"], unfollowed := true, recurses := true, named := ["internal/bytealg.MaxLen", "unicode/utf8.first", "unicode/utf8.acceptRanges"], apart := false, laid := [("unicode/utf8.acceptRanges", laid_unicode_utf8_acceptRanges), ("unicode/utf8.first", laid_unicode_utf8_first)] }
def ZonePutsSaid : Prop := zonePutsRow.holds Tryd.pinned (OpenSpec.ofChange zonePutsSpec)

/-- ITS FALSE NEIGHBOUR: 'it returns false'. Refute it at one input. -/
def zonePutsWrong : ChangeSpec := { name := "zonePuts", fn := fun _ => fun
  | [d1, d2, d3] => { results := [.lit (.bool false)], args := [d1, d2, d3] }
  | _ => none }
def ZonePutsWrongFalsely : Prop := zonePutsRow.holds Tryd.pinned (OpenSpec.ofChange zonePutsWrong)

/-- 'greatseallaw12.ZoneTells': WHATEVER THE INPUT: true; the input reads as it did. -/
def zoneTellsSpec : ChangeSpec := { name := "zoneTells", fn := fun _ => fun
  | [d1, d2] => { results := [.lit (.bool true)], args := [d1, d2] }
  | _ => none }
def zoneTellsRow : OpenClaim := { program := "ytfgejhlgenaniaadoor", sum := "a92ada987630ce575f72a6496bf4829594c45113035f428aa16452460f260954", func := "greatseal/greatseallaw12.ZoneTells", spec := "zoneTells", inPlace := ["internal/bytealg.CountString", "internal/bytealg.IndexByteString", "internal/bytealg.IndexString", "internal/bytealg.abigen_runtime_cmpstring", "slices.overlaps[greatseal/api.Rec]"], unfollowed := true, recurses := true, named := ["internal/bytealg.MaxLen", "unicode/utf8.first", "unicode/utf8.acceptRanges"], apart := false, laid := [("unicode/utf8.acceptRanges", laid_unicode_utf8_acceptRanges), ("unicode/utf8.first", laid_unicode_utf8_first)] }
def ZoneTellsSaid : Prop := zoneTellsRow.holds Tryd.pinned (OpenSpec.ofChange zoneTellsSpec)

/-- ITS FALSE NEIGHBOUR: 'it returns false'. Refute it at one input. -/
def zoneTellsWrong : ChangeSpec := { name := "zoneTells", fn := fun _ => fun
  | [d1, d2] => { results := [.lit (.bool false)], args := [d1, d2] }
  | _ => none }
def ZoneTellsWrongFalsely : Prop := zoneTellsRow.holds Tryd.pinned (OpenSpec.ofChange zoneTellsWrong)

/-- 'greatseallaw12.ZoneBack': WHATEVER THE INPUT: true; the input reads as it did. -/
def zoneBackSpec : ChangeSpec := { name := "zoneBack", fn := fun _ => fun
  | [d1, d2] => { results := [.lit (.bool true)], args := [d1, d2] }
  | _ => none }
def zoneBackRow : OpenClaim := { program := "ytfgejhlgenaniaadoor", sum := "a92ada987630ce575f72a6496bf4829594c45113035f428aa16452460f260954", func := "greatseal/greatseallaw12.ZoneBack", spec := "zoneBack", inPlace := ["internal/bytealg.CountString", "internal/bytealg.IndexByteString", "internal/bytealg.IndexString", "internal/bytealg.abigen_runtime_cmpstring", "slices.overlaps[greatseal/api.Rec]"], unfollowed := true, recurses := true, named := ["internal/bytealg.MaxLen", "unicode/utf8.first", "unicode/utf8.acceptRanges"], apart := false, laid := [("unicode/utf8.acceptRanges", laid_unicode_utf8_acceptRanges), ("unicode/utf8.first", laid_unicode_utf8_first)] }
def ZoneBackSaid : Prop := zoneBackRow.holds Tryd.pinned (OpenSpec.ofChange zoneBackSpec)

/-- ITS FALSE NEIGHBOUR: 'it returns false'. Refute it at one input. -/
def zoneBackWrong : ChangeSpec := { name := "zoneBack", fn := fun _ => fun
  | [d1, d2] => { results := [.lit (.bool false)], args := [d1, d2] }
  | _ => none }
def ZoneBackWrongFalsely : Prop := zoneBackRow.holds Tryd.pinned (OpenSpec.ofChange zoneBackWrong)

/- THE SECOND FORM. 'bulk': how many values and letters a reading holds, each counted each time it is reached (what is shared counts as often as it is met; a slice's spare places count too). A statement '..UptoSaid' is the law's where the arguments, and the package variables that the reading takes, are together of bulk at most 1048576: NARROWER than '..Said'. Prove '..Said' where nothing that the law and all that it calls make is longer than what came in: it says more and counts as full. Else prove '..UptoSaid'. A law counts once. -/
mutual
def uptoBulk {H : Type} : DataW H → Nat
  | .lit (.string bytes) => bytes.length + 1
  | .lit _ => 1
  | .nil => 1
  | .ptr d => uptoBulk d + 1
  | .slice elems spare => uptoBulkAll elems + uptoBulkAll spare + 1
  | .agg parts => uptoBulkAll parts + 1
  | .iface _ d => uptoBulk d + 1
  | .map entries => uptoBulkEntries entries + 1
  | .held _ => 1
def uptoBulkAll {H : Type} : List (DataW H) → Nat
  | [] => 0
  | d :: r => uptoBulk d + uptoBulkAll r
def uptoBulkEntries {H : Type} : List (Lit × DataW H) → Nat
  | [] => 0
  | x :: r => uptoBulkEntry x + uptoBulkEntries r
def uptoBulkEntry {H : Type} : Lit × DataW H → Nat
  | (.string bytes, d) => bytes.length + uptoBulk d + 1
  | (_, d) => uptoBulk d + 1
 end
def uptoSmall : (H : Type) → List (DataW H) → Bool := fun _ ds => decide (uptoBulkAll ds ≤ 1048576)
def OpenSpec.upto (s : _root_.Go.ChangeSpec) : _root_.Go.OpenSpec := { _root_.Go.OpenSpec.ofChange s with cond := some uptoSmall }

/-- 'greatseallaw12.ZoneAsks', WHERE WHAT IT READS IS OF BULK AT MOST 1048576: true; the input reads as it did. -/
def zoneAsksUptoRow : OpenClaim := { program := "ytfgejhlgenaniaadoor", sum := "a92ada987630ce575f72a6496bf4829594c45113035f428aa16452460f260954", func := "greatseal/greatseallaw12.ZoneAsks", spec := "zoneAsks", inPlace := ["internal/bytealg.CountString", "internal/bytealg.IndexByteString", "internal/bytealg.IndexString", "internal/bytealg.abigen_runtime_cmpstring", "slices.overlaps[greatseal/api.Rec]"], unfollowed := true, recurses := true, named := ["internal/bytealg.MaxLen", "unicode/utf8.first", "unicode/utf8.acceptRanges"], apart := false, laid := [("unicode/utf8.acceptRanges", laid_unicode_utf8_acceptRanges), ("unicode/utf8.first", laid_unicode_utf8_first)], narrowed := true }
def ZoneAsksUptoSaid : Prop := zoneAsksUptoRow.holds Tryd.pinned (OpenSpec.upto zoneAsksSpec)

/-- 'greatseallaw12.ZoneBests', WHERE WHAT IT READS IS OF BULK AT MOST 1048576: true; the input reads as it did. -/
def zoneBestsUptoRow : OpenClaim := { program := "ytfgejhlgenaniaadoor", sum := "a92ada987630ce575f72a6496bf4829594c45113035f428aa16452460f260954", func := "greatseal/greatseallaw12.ZoneBests", spec := "zoneBests", inPlace := ["internal/bytealg.CountString", "internal/bytealg.IndexByteString", "internal/bytealg.IndexString", "internal/bytealg.abigen_runtime_cmpstring", "slices.overlaps[greatseal/api.Rec]"], unfollowed := true, recurses := true, named := ["internal/bytealg.MaxLen", "unicode/utf8.first", "unicode/utf8.acceptRanges"], apart := false, laid := [("unicode/utf8.acceptRanges", laid_unicode_utf8_acceptRanges), ("unicode/utf8.first", laid_unicode_utf8_first)], narrowed := true }
def ZoneBestsUptoSaid : Prop := zoneBestsUptoRow.holds Tryd.pinned (OpenSpec.upto zoneBestsSpec)

/-- 'greatseallaw12.ZoneAll', WHERE WHAT IT READS IS OF BULK AT MOST 1048576: true; the input reads as it did. -/
def zoneAllUptoRow : OpenClaim := { program := "ytfgejhlgenaniaadoor", sum := "a92ada987630ce575f72a6496bf4829594c45113035f428aa16452460f260954", func := "greatseal/greatseallaw12.ZoneAll", spec := "zoneAll", inPlace := ["internal/bytealg.CountString", "internal/bytealg.IndexByteString", "internal/bytealg.IndexString", "internal/bytealg.abigen_runtime_cmpstring", "slices.overlaps[greatseal/api.Rec]"], unfollowed := true, recurses := true, named := ["internal/bytealg.MaxLen", "unicode/utf8.first", "unicode/utf8.acceptRanges"], apart := false, laid := [("unicode/utf8.acceptRanges", laid_unicode_utf8_acceptRanges), ("unicode/utf8.first", laid_unicode_utf8_first)], narrowed := true }
def ZoneAllUptoSaid : Prop := zoneAllUptoRow.holds Tryd.pinned (OpenSpec.upto zoneAllSpec)

/-- 'greatseallaw12.ZoneCuts', WHERE WHAT IT READS IS OF BULK AT MOST 1048576: true; the input reads as it did. -/
def zoneCutsUptoRow : OpenClaim := { program := "ytfgejhlgenaniaadoor", sum := "a92ada987630ce575f72a6496bf4829594c45113035f428aa16452460f260954", func := "greatseal/greatseallaw12.ZoneCuts", spec := "zoneCuts", inPlace := ["internal/bytealg.CountString", "internal/bytealg.IndexByteString", "internal/bytealg.IndexString", "internal/bytealg.abigen_runtime_cmpstring", "slices.overlaps[greatseal/api.Rec]"], unfollowed := true, recurses := true, named := ["internal/bytealg.MaxLen", "unicode/utf8.first", "unicode/utf8.acceptRanges"], apart := false, laid := [("unicode/utf8.acceptRanges", laid_unicode_utf8_acceptRanges), ("unicode/utf8.first", laid_unicode_utf8_first)], narrowed := true }
def ZoneCutsUptoSaid : Prop := zoneCutsUptoRow.holds Tryd.pinned (OpenSpec.upto zoneCutsSpec)

/-- 'greatseallaw12.ZoneOrder', WHERE WHAT IT READS IS OF BULK AT MOST 1048576: true; the input reads as it did. -/
def zoneOrderUptoRow : OpenClaim := { program := "ytfgejhlgenaniaadoor", sum := "a92ada987630ce575f72a6496bf4829594c45113035f428aa16452460f260954", func := "greatseal/greatseallaw12.ZoneOrder", spec := "zoneOrder", inPlace := ["internal/bytealg.CountString", "internal/bytealg.IndexByteString", "internal/bytealg.IndexString", "internal/bytealg.abigen_runtime_cmpstring", "slices.overlaps[greatseal/api.Rec]"], unfollowed := true, recurses := true, named := ["internal/bytealg.MaxLen", "unicode/utf8.first", "unicode/utf8.acceptRanges"], apart := false, laid := [("unicode/utf8.acceptRanges", laid_unicode_utf8_acceptRanges), ("unicode/utf8.first", laid_unicode_utf8_first)], narrowed := true }
def ZoneOrderUptoSaid : Prop := zoneOrderUptoRow.holds Tryd.pinned (OpenSpec.upto zoneOrderSpec)

/-- 'greatseallaw12.ZoneNearest', WHERE WHAT IT READS IS OF BULK AT MOST 1048576: true; the input reads as it did. -/
def zoneNearestUptoRow : OpenClaim := { program := "ytfgejhlgenaniaadoor", sum := "a92ada987630ce575f72a6496bf4829594c45113035f428aa16452460f260954", func := "greatseal/greatseallaw12.ZoneNearest", spec := "zoneNearest", inPlace := ["internal/bytealg.CountString", "internal/bytealg.IndexByteString", "internal/bytealg.IndexString", "internal/bytealg.abigen_runtime_cmpstring", "slices.overlaps[greatseal/api.Rec]"], unfollowed := true, recurses := true, named := ["internal/bytealg.MaxLen", "unicode/utf8.first", "unicode/utf8.acceptRanges"], apart := false, laid := [("unicode/utf8.acceptRanges", laid_unicode_utf8_acceptRanges), ("unicode/utf8.first", laid_unicode_utf8_first)], narrowed := true }
def ZoneNearestUptoSaid : Prop := zoneNearestUptoRow.holds Tryd.pinned (OpenSpec.upto zoneNearestSpec)

/-- 'greatseallaw12.ZonePuts', WHERE WHAT IT READS IS OF BULK AT MOST 1048576: true; the input reads as it did. -/
def zonePutsUptoRow : OpenClaim := { program := "ytfgejhlgenaniaadoor", sum := "a92ada987630ce575f72a6496bf4829594c45113035f428aa16452460f260954", func := "greatseal/greatseallaw12.ZonePuts", spec := "zonePuts", inPlace := ["internal/bytealg.CountString", "internal/bytealg.IndexByteString", "internal/bytealg.IndexString", "internal/bytealg.abigen_runtime_cmpstring", "slices.overlaps[greatseal/api.Rec]"], unfollowed := true, recurses := true, named := ["internal/bytealg.MaxLen", "unicode/utf8.first", "unicode/utf8.acceptRanges"], apart := false, laid := [("unicode/utf8.acceptRanges", laid_unicode_utf8_acceptRanges), ("unicode/utf8.first", laid_unicode_utf8_first)], narrowed := true }
def ZonePutsUptoSaid : Prop := zonePutsUptoRow.holds Tryd.pinned (OpenSpec.upto zonePutsSpec)

/-- 'greatseallaw12.ZoneTells', WHERE WHAT IT READS IS OF BULK AT MOST 1048576: true; the input reads as it did. -/
def zoneTellsUptoRow : OpenClaim := { program := "ytfgejhlgenaniaadoor", sum := "a92ada987630ce575f72a6496bf4829594c45113035f428aa16452460f260954", func := "greatseal/greatseallaw12.ZoneTells", spec := "zoneTells", inPlace := ["internal/bytealg.CountString", "internal/bytealg.IndexByteString", "internal/bytealg.IndexString", "internal/bytealg.abigen_runtime_cmpstring", "slices.overlaps[greatseal/api.Rec]"], unfollowed := true, recurses := true, named := ["internal/bytealg.MaxLen", "unicode/utf8.first", "unicode/utf8.acceptRanges"], apart := false, laid := [("unicode/utf8.acceptRanges", laid_unicode_utf8_acceptRanges), ("unicode/utf8.first", laid_unicode_utf8_first)], narrowed := true }
def ZoneTellsUptoSaid : Prop := zoneTellsUptoRow.holds Tryd.pinned (OpenSpec.upto zoneTellsSpec)

/-- 'greatseallaw12.ZoneBack', WHERE WHAT IT READS IS OF BULK AT MOST 1048576: true; the input reads as it did. -/
def zoneBackUptoRow : OpenClaim := { program := "ytfgejhlgenaniaadoor", sum := "a92ada987630ce575f72a6496bf4829594c45113035f428aa16452460f260954", func := "greatseal/greatseallaw12.ZoneBack", spec := "zoneBack", inPlace := ["internal/bytealg.CountString", "internal/bytealg.IndexByteString", "internal/bytealg.IndexString", "internal/bytealg.abigen_runtime_cmpstring", "slices.overlaps[greatseal/api.Rec]"], unfollowed := true, recurses := true, named := ["internal/bytealg.MaxLen", "unicode/utf8.first", "unicode/utf8.acceptRanges"], apart := false, laid := [("unicode/utf8.acceptRanges", laid_unicode_utf8_acceptRanges), ("unicode/utf8.first", laid_unicode_utf8_first)], narrowed := true }
def ZoneBackUptoSaid : Prop := zoneBackUptoRow.holds Tryd.pinned (OpenSpec.upto zoneBackSpec)

end Rows
end Go.Proofs.YtfgejhlgenaniaaDoor
