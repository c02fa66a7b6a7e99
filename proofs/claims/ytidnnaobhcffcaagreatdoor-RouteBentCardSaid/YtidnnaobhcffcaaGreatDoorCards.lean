/-
  DERIVED. GIVEN WITH THE SEED: THE CARDS: each row of YtidnnaobhcffcaaGreatDoorRows.lean that lists a variable, with what it lists TIED to the program's text (the seventh form; the later family's looks); each row that meets fmt, with fmt's text TOLD by the authors' own Lean function (tested against real Go, not proved from fmt's source: count such statements apart). THE CARD IS WHAT COUNTS. Prove the row's statement (the work); the ties are given (YtidnnaobhcffcaaGreatDoorTie.lean); close each card by the builder's one call (the guide's Derived/Test/ToyasCard.lean, 'card_holds'). Laid BY PROGRAM, IN A SANDBOX (cutbox-door.mjs). By AI agents, Wed Nov 11 2026. No macro, syntax, notation, axiom, sorry.
-/
import Derived.Test.YtidnnaobhcffcaaGreatDoorRows
import GoSem.ClaimSeven
namespace Go.Proofs.YtidnnaobhcffcaaGreatDoor
namespace Rows

/-- THE TIED CARD OF 'greatseallaw13.RouteLooks'. -/
def routeLooksCard : Claim7 := { stood := { row := routeLooksRow, standIns := [], harness := (true, "f5fd5b9b466ede9e656422598668a67c1c3f71662cc623c55b73799e56c894ca"), looks := false }, kinds := [], alts := [], laidByText := true, laidKinds := [.data, .pinned], laidTests := true, laidLooks := .later }
def RouteLooksCardSaid : Prop := Claim7.holds Tryz.pinned (.plain (OpenSpec.ofChange routeLooksSpec)) routeLooksCard

/-- THE TIED CARD OF 'greatseallaw13.RouteSees'. -/
def routeSeesCard : Claim7 := { stood := { row := routeSeesRow, standIns := [], harness := (true, "f5fd5b9b466ede9e656422598668a67c1c3f71662cc623c55b73799e56c894ca"), looks := false }, kinds := [], alts := [], laidByText := true, laidKinds := [.data, .pinned], laidTests := true, laidLooks := .later }
def RouteSeesCardSaid : Prop := Claim7.holds Tryz.pinned (.plain (OpenSpec.ofChange routeSeesSpec)) routeSeesCard

/-- THE TIED CARD OF 'greatseallaw13.RouteSteps'. -/
def routeStepsCard : Claim7 := { stood := { row := routeStepsRow, standIns := [], harness := (true, "f5fd5b9b466ede9e656422598668a67c1c3f71662cc623c55b73799e56c894ca"), looks := false }, kinds := [], alts := [], laidByText := true, laidKinds := [.data, .pinned], laidTests := true, laidLooks := .later }
def RouteStepsCardSaid : Prop := Claim7.holds Tryz.pinned (.plain (OpenSpec.ofChange routeStepsSpec)) routeStepsCard

/-- THE TIED CARD OF 'greatseallaw13.RouteBends'. -/
def routeBendsCard : Claim7 := { stood := { row := routeBendsRow, standIns := [], harness := (true, "f5fd5b9b466ede9e656422598668a67c1c3f71662cc623c55b73799e56c894ca"), looks := false }, kinds := [], alts := [], laidByText := true, laidKinds := [.data, .pinned], laidTests := true, laidLooks := .later }
def RouteBendsCardSaid : Prop := Claim7.holds Tryz.pinned (.plain (OpenSpec.ofChange routeBendsSpec)) routeBendsCard

/-- THE TIED CARD OF 'greatseallaw13.RouteMends'. -/
def routeMendsCard : Claim7 := { stood := { row := routeMendsRow, standIns := [], harness := (true, "f5fd5b9b466ede9e656422598668a67c1c3f71662cc623c55b73799e56c894ca"), looks := false }, kinds := [], alts := [], laidByText := true, laidKinds := [.data, .pinned], laidTests := true, laidLooks := .later }
def RouteMendsCardSaid : Prop := Claim7.holds Tryz.pinned (.plain (OpenSpec.ofChange routeMendsSpec)) routeMendsCard

/-- THE TIED CARD OF 'greatseallaw13.RoutePuts'. -/
def routePutsCard : Claim7 := { stood := { row := routePutsRow, standIns := [], harness := (true, "f5fd5b9b466ede9e656422598668a67c1c3f71662cc623c55b73799e56c894ca"), looks := false }, kinds := [], alts := [], laidByText := true, laidKinds := [.data, .pinned], laidTests := true, laidLooks := .later }
def RoutePutsCardSaid : Prop := Claim7.holds Tryz.pinned (.plain (OpenSpec.ofChange routePutsSpec)) routePutsCard

/-- THE TIED CARD OF 'greatseallaw13.RouteBent'. -/
def routeBentCard : Claim7 := { stood := { row := routeBentRow, standIns := [], harness := (true, "f5fd5b9b466ede9e656422598668a67c1c3f71662cc623c55b73799e56c894ca"), looks := false }, kinds := [], alts := [], laidByText := true, laidKinds := [.data, .pinned], laidTests := true, laidLooks := .later }
def RouteBentCardSaid : Prop := Claim7.holds Tryz.pinned (.plain (OpenSpec.ofChange routeBentSpec)) routeBentCard

/-- THE TIED CARD OF 'greatseallaw13.RouteClocks'. -/
def routeClocksCard : Claim7 := { stood := { row := routeClocksRow, standIns := [], harness := (true, "f5fd5b9b466ede9e656422598668a67c1c3f71662cc623c55b73799e56c894ca"), looks := false }, kinds := [], alts := [], laidByText := true, laidKinds := [.data, .pinned], laidTests := true, laidLooks := .later }
def RouteClocksCardSaid : Prop := Claim7.holds Tryz.pinned (.plain (OpenSpec.ofChange routeClocksSpec)) routeClocksCard

/-- THE SECOND FORM's CARD OF 'greatseallaw13.RouteLooks'. -/
def routeLooksUptoCard : Claim7 := { stood := { row := routeLooksUptoRow, standIns := [], harness := (true, "f5fd5b9b466ede9e656422598668a67c1c3f71662cc623c55b73799e56c894ca"), looks := false }, kinds := [], alts := [], laidByText := true, laidKinds := [.data, .pinned], laidTests := true, laidLooks := .later }
def RouteLooksUptoCardSaid : Prop := Claim7.holds Tryz.pinned (.plain (OpenSpec.upto routeLooksSpec)) routeLooksUptoCard

/-- THE SECOND FORM's CARD OF 'greatseallaw13.RouteSees'. -/
def routeSeesUptoCard : Claim7 := { stood := { row := routeSeesUptoRow, standIns := [], harness := (true, "f5fd5b9b466ede9e656422598668a67c1c3f71662cc623c55b73799e56c894ca"), looks := false }, kinds := [], alts := [], laidByText := true, laidKinds := [.data, .pinned], laidTests := true, laidLooks := .later }
def RouteSeesUptoCardSaid : Prop := Claim7.holds Tryz.pinned (.plain (OpenSpec.upto routeSeesSpec)) routeSeesUptoCard

/-- THE SECOND FORM's CARD OF 'greatseallaw13.RouteSteps'. -/
def routeStepsUptoCard : Claim7 := { stood := { row := routeStepsUptoRow, standIns := [], harness := (true, "f5fd5b9b466ede9e656422598668a67c1c3f71662cc623c55b73799e56c894ca"), looks := false }, kinds := [], alts := [], laidByText := true, laidKinds := [.data, .pinned], laidTests := true, laidLooks := .later }
def RouteStepsUptoCardSaid : Prop := Claim7.holds Tryz.pinned (.plain (OpenSpec.upto routeStepsSpec)) routeStepsUptoCard

/-- THE SECOND FORM's CARD OF 'greatseallaw13.RouteBends'. -/
def routeBendsUptoCard : Claim7 := { stood := { row := routeBendsUptoRow, standIns := [], harness := (true, "f5fd5b9b466ede9e656422598668a67c1c3f71662cc623c55b73799e56c894ca"), looks := false }, kinds := [], alts := [], laidByText := true, laidKinds := [.data, .pinned], laidTests := true, laidLooks := .later }
def RouteBendsUptoCardSaid : Prop := Claim7.holds Tryz.pinned (.plain (OpenSpec.upto routeBendsSpec)) routeBendsUptoCard

/-- THE SECOND FORM's CARD OF 'greatseallaw13.RouteMends'. -/
def routeMendsUptoCard : Claim7 := { stood := { row := routeMendsUptoRow, standIns := [], harness := (true, "f5fd5b9b466ede9e656422598668a67c1c3f71662cc623c55b73799e56c894ca"), looks := false }, kinds := [], alts := [], laidByText := true, laidKinds := [.data, .pinned], laidTests := true, laidLooks := .later }
def RouteMendsUptoCardSaid : Prop := Claim7.holds Tryz.pinned (.plain (OpenSpec.upto routeMendsSpec)) routeMendsUptoCard

/-- THE SECOND FORM's CARD OF 'greatseallaw13.RoutePuts'. -/
def routePutsUptoCard : Claim7 := { stood := { row := routePutsUptoRow, standIns := [], harness := (true, "f5fd5b9b466ede9e656422598668a67c1c3f71662cc623c55b73799e56c894ca"), looks := false }, kinds := [], alts := [], laidByText := true, laidKinds := [.data, .pinned], laidTests := true, laidLooks := .later }
def RoutePutsUptoCardSaid : Prop := Claim7.holds Tryz.pinned (.plain (OpenSpec.upto routePutsSpec)) routePutsUptoCard

/-- THE SECOND FORM's CARD OF 'greatseallaw13.RouteBent'. -/
def routeBentUptoCard : Claim7 := { stood := { row := routeBentUptoRow, standIns := [], harness := (true, "f5fd5b9b466ede9e656422598668a67c1c3f71662cc623c55b73799e56c894ca"), looks := false }, kinds := [], alts := [], laidByText := true, laidKinds := [.data, .pinned], laidTests := true, laidLooks := .later }
def RouteBentUptoCardSaid : Prop := Claim7.holds Tryz.pinned (.plain (OpenSpec.upto routeBentSpec)) routeBentUptoCard

/-- THE SECOND FORM's CARD OF 'greatseallaw13.RouteClocks'. -/
def routeClocksUptoCard : Claim7 := { stood := { row := routeClocksUptoRow, standIns := [], harness := (true, "f5fd5b9b466ede9e656422598668a67c1c3f71662cc623c55b73799e56c894ca"), looks := false }, kinds := [], alts := [], laidByText := true, laidKinds := [.data, .pinned], laidTests := true, laidLooks := .later }
def RouteClocksUptoCardSaid : Prop := Claim7.holds Tryz.pinned (.plain (OpenSpec.upto routeClocksSpec)) routeClocksUptoCard
end Rows
end Go.Proofs.YtidnnaobhcffcaaGreatDoor
