/-
  NARROWER THAN 'FOR EVERY INPUT', by the rows' own cells (each row's printed sentence says how): RouteLooks: laid · RouteSees: laid · RouteSteps: laid · RouteBends: laid · RouteMends: laid · RoutePuts: laid · RouteBent: laid · RouteClocks: laid.
  DERIVED. THE GIVEN ROWS OF THIS SEAT. 8 by the template 'for every input the law returns true; each argument reads behind the call as it read before'; 0 by the template 'total and deterministic' (their statements: YtidnnaobhcffcaaGreatDoorTotals.lean).
  GIVEN WITH THE SEED: the statements are not yours to turn. If you find one false, say at which input.
  Laid BY PROGRAM, IN A SANDBOX (cutbox-rows.mjs): the forced cells as the released guide's own fill.sh prints them over the translation fd0296e504101ceb… (all of the seat's roots in one cut). By AI agents, Wed Nov 11 2026. No macro, syntax, notation, axiom, sorry.
-/
import Derived.Test.YtidnnaobhcffcaaGreatDoorChecked
import GoSem.PinnedTables
import GoSem.Claim
import GoSem.ClaimJoined
import GoSem.ClaimMapViews
import Derived.JoinedTies
import Derived.KernelRfl
namespace Go.Proofs.YtidnnaobhcffcaaGreatDoor
/- THE CELL 'sum', in the pinned program and in every row, IS THE sha256 OF THE DUMP (.gsa) THAT YtidnnaobhcffcaaGreatDoorProg.lean LOADS. Nothing in Lean hashes anything: it is a label: what it is worth is what the hold of that sum in a sandbox is worth. -/
noncomputable def Tryz.pinned : Pinned := { name := "ytidnnaobhcffcaagreatdoor", sum := "fd0296e504101ceb5ab4964983b353870705d3f01fd29fc4fa1ce5103d230576", checked := Tryz.checked }
namespace Rows
def none {H : Type} : Left H := { results := [], args := [] }

/- WHAT THE LISTED PACKAGE-LEVEL VARIABLES READ AS WHEN THE CALL BEGINS. Each datum BY PROGRAM (the guide's laid-datum.mjs) off the statement by which the dump's own 'gosem.cut.vars' lays the variable. In a bare row this is a premise. The card (YtidnnaobhcffcaaGreatDoorCards.lean) ties it to the program's text. -/
def laid_unicode_utf8_acceptRanges {H : Type} : DataW H := .agg [.agg [.lit (.int .u8 128), .lit (.int .u8 191)], .agg [.lit (.int .u8 160), .lit (.int .u8 191)], .agg [.lit (.int .u8 128), .lit (.int .u8 159)], .agg [.lit (.int .u8 144), .lit (.int .u8 191)], .agg [.lit (.int .u8 128), .lit (.int .u8 143)], .agg [.lit (.int .u8 0), .lit (.int .u8 0)], .agg [.lit (.int .u8 0), .lit (.int .u8 0)], .agg [.lit (.int .u8 0), .lit (.int .u8 0)], .agg [.lit (.int .u8 0), .lit (.int .u8 0)], .agg [.lit (.int .u8 0), .lit (.int .u8 0)], .agg [.lit (.int .u8 0), .lit (.int .u8 0)], .agg [.lit (.int .u8 0), .lit (.int .u8 0)], .agg [.lit (.int .u8 0), .lit (.int .u8 0)], .agg [.lit (.int .u8 0), .lit (.int .u8 0)], .agg [.lit (.int .u8 0), .lit (.int .u8 0)], .agg [.lit (.int .u8 0), .lit (.int .u8 0)]]
/-- One of Go's own tables, pinned by name: the form's constant. -/
def laid_unicode_utf8_first : DataW Unit := Go.Pinned.utf8First

/-- 'greatseallaw13.RouteLooks': WHATEVER THE INPUT: true; the input reads as it did. -/
def routeLooksSpec : ChangeSpec := { name := "routeLooks", fn := fun _ => fun
  | [d1, d2, d3] => { results := [.lit (.bool true)], args := [d1, d2, d3] }
  | _ => none }
def routeLooksRow : OpenClaim := { program := "ytidnnaobhcffcaagreatdoor", sum := "fd0296e504101ceb5ab4964983b353870705d3f01fd29fc4fa1ce5103d230576", func := "greatseal/greatseallaw13.RouteLooks", spec := "routeLooks", inPlace := ["internal/bytealg.CountString", "internal/bytealg.IndexByteString", "internal/bytealg.IndexString", "internal/bytealg.abigen_runtime_cmpstring", "slices.overlaps[greatseal/api.Zone]", "slices.overlaps[greatseal/api.Server]", "slices.overlaps[greatseal/api.Bend]"], unfollowed := true, recurses := true, named := ["internal/bytealg.MaxLen", "unicode/utf8.first", "unicode/utf8.acceptRanges"], apart := false, laid := [("unicode/utf8.acceptRanges", laid_unicode_utf8_acceptRanges), ("unicode/utf8.first", laid_unicode_utf8_first)] }
def RouteLooksSaid : Prop := routeLooksRow.holds Tryz.pinned (OpenSpec.ofChange routeLooksSpec)

/-- ITS FALSE NEIGHBOUR: 'it returns false'. Refute it at one input. -/
def routeLooksWrong : ChangeSpec := { name := "routeLooks", fn := fun _ => fun
  | [d1, d2, d3] => { results := [.lit (.bool false)], args := [d1, d2, d3] }
  | _ => none }
def RouteLooksWrongFalsely : Prop := routeLooksRow.holds Tryz.pinned (OpenSpec.ofChange routeLooksWrong)

/-- 'greatseallaw13.RouteSees': WHATEVER THE INPUT: true; the input reads as it did. -/
def routeSeesSpec : ChangeSpec := { name := "routeSees", fn := fun _ => fun
  | [d1, d2, d3] => { results := [.lit (.bool true)], args := [d1, d2, d3] }
  | _ => none }
def routeSeesRow : OpenClaim := { program := "ytidnnaobhcffcaagreatdoor", sum := "fd0296e504101ceb5ab4964983b353870705d3f01fd29fc4fa1ce5103d230576", func := "greatseal/greatseallaw13.RouteSees", spec := "routeSees", inPlace := ["internal/bytealg.CountString", "internal/bytealg.IndexByteString", "internal/bytealg.IndexString", "internal/bytealg.abigen_runtime_cmpstring", "slices.overlaps[greatseal/api.Zone]", "slices.overlaps[greatseal/api.Server]", "slices.overlaps[greatseal/api.Bend]"], unfollowed := true, recurses := true, named := ["internal/bytealg.MaxLen", "unicode/utf8.first", "unicode/utf8.acceptRanges"], apart := false, laid := [("unicode/utf8.acceptRanges", laid_unicode_utf8_acceptRanges), ("unicode/utf8.first", laid_unicode_utf8_first)] }
def RouteSeesSaid : Prop := routeSeesRow.holds Tryz.pinned (OpenSpec.ofChange routeSeesSpec)

/-- ITS FALSE NEIGHBOUR: 'it returns false'. Refute it at one input. -/
def routeSeesWrong : ChangeSpec := { name := "routeSees", fn := fun _ => fun
  | [d1, d2, d3] => { results := [.lit (.bool false)], args := [d1, d2, d3] }
  | _ => none }
def RouteSeesWrongFalsely : Prop := routeSeesRow.holds Tryz.pinned (OpenSpec.ofChange routeSeesWrong)

/-- 'greatseallaw13.RouteSteps': WHATEVER THE INPUT: true; the input reads as it did. -/
def routeStepsSpec : ChangeSpec := { name := "routeSteps", fn := fun _ => fun
  | [d1, d2, d3, d4] => { results := [.lit (.bool true)], args := [d1, d2, d3, d4] }
  | _ => none }
def routeStepsRow : OpenClaim := { program := "ytidnnaobhcffcaagreatdoor", sum := "fd0296e504101ceb5ab4964983b353870705d3f01fd29fc4fa1ce5103d230576", func := "greatseal/greatseallaw13.RouteSteps", spec := "routeSteps", inPlace := ["internal/bytealg.CountString", "internal/bytealg.IndexByteString", "internal/bytealg.IndexString", "internal/bytealg.abigen_runtime_cmpstring", "slices.overlaps[greatseal/api.Zone]", "slices.overlaps[greatseal/api.Server]", "slices.overlaps[greatseal/api.Bend]"], unfollowed := true, recurses := true, named := ["internal/bytealg.MaxLen", "unicode/utf8.first", "unicode/utf8.acceptRanges"], apart := false, laid := [("unicode/utf8.acceptRanges", laid_unicode_utf8_acceptRanges), ("unicode/utf8.first", laid_unicode_utf8_first)] }
def RouteStepsSaid : Prop := routeStepsRow.holds Tryz.pinned (OpenSpec.ofChange routeStepsSpec)

/-- ITS FALSE NEIGHBOUR: 'it returns false'. Refute it at one input. -/
def routeStepsWrong : ChangeSpec := { name := "routeSteps", fn := fun _ => fun
  | [d1, d2, d3, d4] => { results := [.lit (.bool false)], args := [d1, d2, d3, d4] }
  | _ => none }
def RouteStepsWrongFalsely : Prop := routeStepsRow.holds Tryz.pinned (OpenSpec.ofChange routeStepsWrong)

/-- 'greatseallaw13.RouteBends': WHATEVER THE INPUT: true; the input reads as it did. -/
def routeBendsSpec : ChangeSpec := { name := "routeBends", fn := fun _ => fun
  | [d1, d2, d3, d4] => { results := [.lit (.bool true)], args := [d1, d2, d3, d4] }
  | _ => none }
def routeBendsRow : OpenClaim := { program := "ytidnnaobhcffcaagreatdoor", sum := "fd0296e504101ceb5ab4964983b353870705d3f01fd29fc4fa1ce5103d230576", func := "greatseal/greatseallaw13.RouteBends", spec := "routeBends", inPlace := ["internal/bytealg.CountString", "internal/bytealg.IndexByteString", "internal/bytealg.IndexString", "internal/bytealg.abigen_runtime_cmpstring", "slices.overlaps[greatseal/api.Zone]", "slices.overlaps[greatseal/api.Server]", "slices.overlaps[greatseal/api.Bend]"], unfollowed := true, recurses := true, named := ["internal/bytealg.MaxLen", "unicode/utf8.first", "unicode/utf8.acceptRanges"], apart := false, laid := [("unicode/utf8.acceptRanges", laid_unicode_utf8_acceptRanges), ("unicode/utf8.first", laid_unicode_utf8_first)] }
def RouteBendsSaid : Prop := routeBendsRow.holds Tryz.pinned (OpenSpec.ofChange routeBendsSpec)

/-- ITS FALSE NEIGHBOUR: 'it returns false'. Refute it at one input. -/
def routeBendsWrong : ChangeSpec := { name := "routeBends", fn := fun _ => fun
  | [d1, d2, d3, d4] => { results := [.lit (.bool false)], args := [d1, d2, d3, d4] }
  | _ => none }
def RouteBendsWrongFalsely : Prop := routeBendsRow.holds Tryz.pinned (OpenSpec.ofChange routeBendsWrong)

/-- 'greatseallaw13.RouteMends': WHATEVER THE INPUT: true; the input reads as it did. -/
def routeMendsSpec : ChangeSpec := { name := "routeMends", fn := fun _ => fun
  | [d1, d2, d3] => { results := [.lit (.bool true)], args := [d1, d2, d3] }
  | _ => none }
def routeMendsRow : OpenClaim := { program := "ytidnnaobhcffcaagreatdoor", sum := "fd0296e504101ceb5ab4964983b353870705d3f01fd29fc4fa1ce5103d230576", func := "greatseal/greatseallaw13.RouteMends", spec := "routeMends", inPlace := ["internal/bytealg.CountString", "internal/bytealg.IndexByteString", "internal/bytealg.IndexString", "internal/bytealg.abigen_runtime_cmpstring", "slices.overlaps[greatseal/api.Zone]", "slices.overlaps[greatseal/api.Server]", "slices.overlaps[greatseal/api.Bend]"], unfollowed := true, recurses := true, named := ["internal/bytealg.MaxLen", "unicode/utf8.first", "unicode/utf8.acceptRanges"], apart := false, laid := [("unicode/utf8.acceptRanges", laid_unicode_utf8_acceptRanges), ("unicode/utf8.first", laid_unicode_utf8_first)] }
def RouteMendsSaid : Prop := routeMendsRow.holds Tryz.pinned (OpenSpec.ofChange routeMendsSpec)

/-- ITS FALSE NEIGHBOUR: 'it returns false'. Refute it at one input. -/
def routeMendsWrong : ChangeSpec := { name := "routeMends", fn := fun _ => fun
  | [d1, d2, d3] => { results := [.lit (.bool false)], args := [d1, d2, d3] }
  | _ => none }
def RouteMendsWrongFalsely : Prop := routeMendsRow.holds Tryz.pinned (OpenSpec.ofChange routeMendsWrong)

/-- 'greatseallaw13.RoutePuts': WHATEVER THE INPUT: true; the input reads as it did. -/
def routePutsSpec : ChangeSpec := { name := "routePuts", fn := fun _ => fun
  | [d1, d2, d3, d4] => { results := [.lit (.bool true)], args := [d1, d2, d3, d4] }
  | _ => none }
def routePutsRow : OpenClaim := { program := "ytidnnaobhcffcaagreatdoor", sum := "fd0296e504101ceb5ab4964983b353870705d3f01fd29fc4fa1ce5103d230576", func := "greatseal/greatseallaw13.RoutePuts", spec := "routePuts", inPlace := ["internal/bytealg.CountString", "internal/bytealg.IndexByteString", "internal/bytealg.IndexString", "internal/bytealg.abigen_runtime_cmpstring", "slices.overlaps[greatseal/api.Zone]", "slices.overlaps[greatseal/api.Server]", "slices.overlaps[greatseal/api.Bend]"], unfollowed := true, recurses := true, named := ["internal/bytealg.MaxLen", "unicode/utf8.first", "unicode/utf8.acceptRanges"], apart := false, laid := [("unicode/utf8.acceptRanges", laid_unicode_utf8_acceptRanges), ("unicode/utf8.first", laid_unicode_utf8_first)] }
def RoutePutsSaid : Prop := routePutsRow.holds Tryz.pinned (OpenSpec.ofChange routePutsSpec)

/-- ITS FALSE NEIGHBOUR: 'it returns false'. Refute it at one input. -/
def routePutsWrong : ChangeSpec := { name := "routePuts", fn := fun _ => fun
  | [d1, d2, d3, d4] => { results := [.lit (.bool false)], args := [d1, d2, d3, d4] }
  | _ => none }
def RoutePutsWrongFalsely : Prop := routePutsRow.holds Tryz.pinned (OpenSpec.ofChange routePutsWrong)

/-- 'greatseallaw13.RouteBent': WHATEVER THE INPUT: true; the input reads as it did. -/
def routeBentSpec : ChangeSpec := { name := "routeBent", fn := fun _ => fun
  | [d1, d2, d3] => { results := [.lit (.bool true)], args := [d1, d2, d3] }
  | _ => none }
def routeBentRow : OpenClaim := { program := "ytidnnaobhcffcaagreatdoor", sum := "fd0296e504101ceb5ab4964983b353870705d3f01fd29fc4fa1ce5103d230576", func := "greatseal/greatseallaw13.RouteBent", spec := "routeBent", inPlace := ["internal/bytealg.CountString", "internal/bytealg.IndexByteString", "internal/bytealg.IndexString", "internal/bytealg.abigen_runtime_cmpstring", "slices.overlaps[greatseal/api.Zone]", "slices.overlaps[greatseal/api.Server]", "slices.overlaps[greatseal/api.Bend]"], unfollowed := true, recurses := true, named := ["internal/bytealg.MaxLen", "unicode/utf8.first", "unicode/utf8.acceptRanges"], apart := false, laid := [("unicode/utf8.acceptRanges", laid_unicode_utf8_acceptRanges), ("unicode/utf8.first", laid_unicode_utf8_first)] }
def RouteBentSaid : Prop := routeBentRow.holds Tryz.pinned (OpenSpec.ofChange routeBentSpec)

/-- ITS FALSE NEIGHBOUR: 'it returns false'. Refute it at one input. -/
def routeBentWrong : ChangeSpec := { name := "routeBent", fn := fun _ => fun
  | [d1, d2, d3] => { results := [.lit (.bool false)], args := [d1, d2, d3] }
  | _ => none }
def RouteBentWrongFalsely : Prop := routeBentRow.holds Tryz.pinned (OpenSpec.ofChange routeBentWrong)

/-- 'greatseallaw13.RouteClocks': WHATEVER THE INPUT: true; the input reads as it did. -/
def routeClocksSpec : ChangeSpec := { name := "routeClocks", fn := fun _ => fun
  | [d1, d2, d3, d4, d5] => { results := [.lit (.bool true)], args := [d1, d2, d3, d4, d5] }
  | _ => none }
def routeClocksRow : OpenClaim := { program := "ytidnnaobhcffcaagreatdoor", sum := "fd0296e504101ceb5ab4964983b353870705d3f01fd29fc4fa1ce5103d230576", func := "greatseal/greatseallaw13.RouteClocks", spec := "routeClocks", inPlace := ["internal/bytealg.CountString", "internal/bytealg.IndexByteString", "internal/bytealg.IndexString", "internal/bytealg.abigen_runtime_cmpstring", "slices.overlaps[greatseal/api.Zone]", "slices.overlaps[greatseal/api.Server]", "slices.overlaps[greatseal/api.Bend]"], unfollowed := true, recurses := true, named := ["internal/bytealg.MaxLen", "unicode/utf8.first", "unicode/utf8.acceptRanges"], apart := false, laid := [("unicode/utf8.acceptRanges", laid_unicode_utf8_acceptRanges), ("unicode/utf8.first", laid_unicode_utf8_first)] }
def RouteClocksSaid : Prop := routeClocksRow.holds Tryz.pinned (OpenSpec.ofChange routeClocksSpec)

/-- ITS FALSE NEIGHBOUR: 'it returns false'. Refute it at one input. -/
def routeClocksWrong : ChangeSpec := { name := "routeClocks", fn := fun _ => fun
  | [d1, d2, d3, d4, d5] => { results := [.lit (.bool false)], args := [d1, d2, d3, d4, d5] }
  | _ => none }
def RouteClocksWrongFalsely : Prop := routeClocksRow.holds Tryz.pinned (OpenSpec.ofChange routeClocksWrong)

/- THE SECOND FORM. 'bulk': how many values and letters a reading holds, each counted each time it is reached (what is shared counts as often as it is met; a slice's spare places count too). A statement '..UptoSaid' is the law's where the arguments, and the package variables that the reading takes, are together of bulk at most 1048576: NARROWER than '..Said'. Prove '..Said' where nothing that the law and all that it calls make is longer than what came in: it says more and counts as full. Else prove '..UptoSaid'. A law counts once. -/
mutual
def uptoBulk {H : Type} : DataW H → Nat
  | .lit (.string bytes) => bytes.length + 1
  | .lit _ => 1
  | .nil => 1
  | .ptr d => uptoBulk d + 1
  | .slice elems spare => uptoBulkAll elems + uptoBulkAll spare + 1
  | .agg parts => uptoBulkAll parts + 1
  | .iface _ d => uptoBulk d + 1
  | .map entries => uptoBulkEntries entries + 1
  | .held _ => 1
def uptoBulkAll {H : Type} : List (DataW H) → Nat
  | [] => 0
  | d :: r => uptoBulk d + uptoBulkAll r
def uptoBulkEntries {H : Type} : List (Lit × DataW H) → Nat
  | [] => 0
  | x :: r => uptoBulkEntry x + uptoBulkEntries r
def uptoBulkEntry {H : Type} : Lit × DataW H → Nat
  | (.string bytes, d) => bytes.length + uptoBulk d + 1
  | (_, d) => uptoBulk d + 1
 end
def uptoSmall : (H : Type) → List (DataW H) → Bool := fun _ ds => decide (uptoBulkAll ds ≤ 1048576)
def OpenSpec.upto (s : _root_.Go.ChangeSpec) : _root_.Go.OpenSpec := { _root_.Go.OpenSpec.ofChange s with cond := some uptoSmall }

/-- 'greatseallaw13.RouteLooks', WHERE WHAT IT READS IS OF BULK AT MOST 1048576: true; the input reads as it did. -/
def routeLooksUptoRow : OpenClaim := { program := "ytidnnaobhcffcaagreatdoor", sum := "fd0296e504101ceb5ab4964983b353870705d3f01fd29fc4fa1ce5103d230576", func := "greatseal/greatseallaw13.RouteLooks", spec := "routeLooks", inPlace := ["internal/bytealg.CountString", "internal/bytealg.IndexByteString", "internal/bytealg.IndexString", "internal/bytealg.abigen_runtime_cmpstring", "slices.overlaps[greatseal/api.Zone]", "slices.overlaps[greatseal/api.Server]", "slices.overlaps[greatseal/api.Bend]"], unfollowed := true, recurses := true, named := ["internal/bytealg.MaxLen", "unicode/utf8.first", "unicode/utf8.acceptRanges"], apart := false, laid := [("unicode/utf8.acceptRanges", laid_unicode_utf8_acceptRanges), ("unicode/utf8.first", laid_unicode_utf8_first)], narrowed := true }
def RouteLooksUptoSaid : Prop := routeLooksUptoRow.holds Tryz.pinned (OpenSpec.upto routeLooksSpec)

/-- 'greatseallaw13.RouteSees', WHERE WHAT IT READS IS OF BULK AT MOST 1048576: true; the input reads as it did. -/
def routeSeesUptoRow : OpenClaim := { program := "ytidnnaobhcffcaagreatdoor", sum := "fd0296e504101ceb5ab4964983b353870705d3f01fd29fc4fa1ce5103d230576", func := "greatseal/greatseallaw13.RouteSees", spec := "routeSees", inPlace := ["internal/bytealg.CountString", "internal/bytealg.IndexByteString", "internal/bytealg.IndexString", "internal/bytealg.abigen_runtime_cmpstring", "slices.overlaps[greatseal/api.Zone]", "slices.overlaps[greatseal/api.Server]", "slices.overlaps[greatseal/api.Bend]"], unfollowed := true, recurses := true, named := ["internal/bytealg.MaxLen", "unicode/utf8.first", "unicode/utf8.acceptRanges"], apart := false, laid := [("unicode/utf8.acceptRanges", laid_unicode_utf8_acceptRanges), ("unicode/utf8.first", laid_unicode_utf8_first)], narrowed := true }
def RouteSeesUptoSaid : Prop := routeSeesUptoRow.holds Tryz.pinned (OpenSpec.upto routeSeesSpec)

/-- 'greatseallaw13.RouteSteps', WHERE WHAT IT READS IS OF BULK AT MOST 1048576: true; the input reads as it did. -/
def routeStepsUptoRow : OpenClaim := { program := "ytidnnaobhcffcaagreatdoor", sum := "fd0296e504101ceb5ab4964983b353870705d3f01fd29fc4fa1ce5103d230576", func := "greatseal/greatseallaw13.RouteSteps", spec := "routeSteps", inPlace := ["internal/bytealg.CountString", "internal/bytealg.IndexByteString", "internal/bytealg.IndexString", "internal/bytealg.abigen_runtime_cmpstring", "slices.overlaps[greatseal/api.Zone]", "slices.overlaps[greatseal/api.Server]", "slices.overlaps[greatseal/api.Bend]"], unfollowed := true, recurses := true, named := ["internal/bytealg.MaxLen", "unicode/utf8.first", "unicode/utf8.acceptRanges"], apart := false, laid := [("unicode/utf8.acceptRanges", laid_unicode_utf8_acceptRanges), ("unicode/utf8.first", laid_unicode_utf8_first)], narrowed := true }
def RouteStepsUptoSaid : Prop := routeStepsUptoRow.holds Tryz.pinned (OpenSpec.upto routeStepsSpec)

/-- 'greatseallaw13.RouteBends', WHERE WHAT IT READS IS OF BULK AT MOST 1048576: true; the input reads as it did. -/
def routeBendsUptoRow : OpenClaim := { program := "ytidnnaobhcffcaagreatdoor", sum := "fd0296e504101ceb5ab4964983b353870705d3f01fd29fc4fa1ce5103d230576", func := "greatseal/greatseallaw13.RouteBends", spec := "routeBends", inPlace := ["internal/bytealg.CountString", "internal/bytealg.IndexByteString", "internal/bytealg.IndexString", "internal/bytealg.abigen_runtime_cmpstring", "slices.overlaps[greatseal/api.Zone]", "slices.overlaps[greatseal/api.Server]", "slices.overlaps[greatseal/api.Bend]"], unfollowed := true, recurses := true, named := ["internal/bytealg.MaxLen", "unicode/utf8.first", "unicode/utf8.acceptRanges"], apart := false, laid := [("unicode/utf8.acceptRanges", laid_unicode_utf8_acceptRanges), ("unicode/utf8.first", laid_unicode_utf8_first)], narrowed := true }
def RouteBendsUptoSaid : Prop := routeBendsUptoRow.holds Tryz.pinned (OpenSpec.upto routeBendsSpec)

/-- 'greatseallaw13.RouteMends', WHERE WHAT IT READS IS OF BULK AT MOST 1048576: true; the input reads as it did. -/
def routeMendsUptoRow : OpenClaim := { program := "ytidnnaobhcffcaagreatdoor", sum := "fd0296e504101ceb5ab4964983b353870705d3f01fd29fc4fa1ce5103d230576", func := "greatseal/greatseallaw13.RouteMends", spec := "routeMends", inPlace := ["internal/bytealg.CountString", "internal/bytealg.IndexByteString", "internal/bytealg.IndexString", "internal/bytealg.abigen_runtime_cmpstring", "slices.overlaps[greatseal/api.Zone]", "slices.overlaps[greatseal/api.Server]", "slices.overlaps[greatseal/api.Bend]"], unfollowed := true, recurses := true, named := ["internal/bytealg.MaxLen", "unicode/utf8.first", "unicode/utf8.acceptRanges"], apart := false, laid := [("unicode/utf8.acceptRanges", laid_unicode_utf8_acceptRanges), ("unicode/utf8.first", laid_unicode_utf8_first)], narrowed := true }
def RouteMendsUptoSaid : Prop := routeMendsUptoRow.holds Tryz.pinned (OpenSpec.upto routeMendsSpec)

/-- 'greatseallaw13.RoutePuts', WHERE WHAT IT READS IS OF BULK AT MOST 1048576: true; the input reads as it did. -/
def routePutsUptoRow : OpenClaim := { program := "ytidnnaobhcffcaagreatdoor", sum := "fd0296e504101ceb5ab4964983b353870705d3f01fd29fc4fa1ce5103d230576", func := "greatseal/greatseallaw13.RoutePuts", spec := "routePuts", inPlace := ["internal/bytealg.CountString", "internal/bytealg.IndexByteString", "internal/bytealg.IndexString", "internal/bytealg.abigen_runtime_cmpstring", "slices.overlaps[greatseal/api.Zone]", "slices.overlaps[greatseal/api.Server]", "slices.overlaps[greatseal/api.Bend]"], unfollowed := true, recurses := true, named := ["internal/bytealg.MaxLen", "unicode/utf8.first", "unicode/utf8.acceptRanges"], apart := false, laid := [("unicode/utf8.acceptRanges", laid_unicode_utf8_acceptRanges), ("unicode/utf8.first", laid_unicode_utf8_first)], narrowed := true }
def RoutePutsUptoSaid : Prop := routePutsUptoRow.holds Tryz.pinned (OpenSpec.upto routePutsSpec)

/-- 'greatseallaw13.RouteBent', WHERE WHAT IT READS IS OF BULK AT MOST 1048576: true; the input reads as it did. -/
def routeBentUptoRow : OpenClaim := { program := "ytidnnaobhcffcaagreatdoor", sum := "fd0296e504101ceb5ab4964983b353870705d3f01fd29fc4fa1ce5103d230576", func := "greatseal/greatseallaw13.RouteBent", spec := "routeBent", inPlace := ["internal/bytealg.CountString", "internal/bytealg.IndexByteString", "internal/bytealg.IndexString", "internal/bytealg.abigen_runtime_cmpstring", "slices.overlaps[greatseal/api.Zone]", "slices.overlaps[greatseal/api.Server]", "slices.overlaps[greatseal/api.Bend]"], unfollowed := true, recurses := true, named := ["internal/bytealg.MaxLen", "unicode/utf8.first", "unicode/utf8.acceptRanges"], apart := false, laid := [("unicode/utf8.acceptRanges", laid_unicode_utf8_acceptRanges), ("unicode/utf8.first", laid_unicode_utf8_first)], narrowed := true }
def RouteBentUptoSaid : Prop := routeBentUptoRow.holds Tryz.pinned (OpenSpec.upto routeBentSpec)

/-- 'greatseallaw13.RouteClocks', WHERE WHAT IT READS IS OF BULK AT MOST 1048576: true; the input reads as it did. -/
def routeClocksUptoRow : OpenClaim := { program := "ytidnnaobhcffcaagreatdoor", sum := "fd0296e504101ceb5ab4964983b353870705d3f01fd29fc4fa1ce5103d230576", func := "greatseal/greatseallaw13.RouteClocks", spec := "routeClocks", inPlace := ["internal/bytealg.CountString", "internal/bytealg.IndexByteString", "internal/bytealg.IndexString", "internal/bytealg.abigen_runtime_cmpstring", "slices.overlaps[greatseal/api.Zone]", "slices.overlaps[greatseal/api.Server]", "slices.overlaps[greatseal/api.Bend]"], unfollowed := true, recurses := true, named := ["internal/bytealg.MaxLen", "unicode/utf8.first", "unicode/utf8.acceptRanges"], apart := false, laid := [("unicode/utf8.acceptRanges", laid_unicode_utf8_acceptRanges), ("unicode/utf8.first", laid_unicode_utf8_first)], narrowed := true }
def RouteClocksUptoSaid : Prop := routeClocksUptoRow.holds Tryz.pinned (OpenSpec.upto routeClocksSpec)

end Rows
end Go.Proofs.YtidnnaobhcffcaaGreatDoor
