/-
  DERIVED. GIVEN WITH THE SEED: THE CARDS: each row of YtfgejhlgenaniaaDoorRows.lean that lists a variable, with what it lists TIED to the program's text (the seventh form; the later family's looks); each row that meets fmt, with fmt's text TOLD by the authors' own Lean function (tested against real Go, not proved from fmt's source: count such statements apart). THE CARD IS WHAT COUNTS. Prove the row's statement (the work); the ties are given (YtfgejhlgenaniaaDoorTie.lean); close each card by the builder's one call (the guide's Derived/Test/ToyasCard.lean, 'card_holds'). Laid BY PROGRAM, IN A SANDBOX (cutbox-door.mjs). By AI agents, Wed Nov 11 2026. No macro, syntax, notation, axiom, sorry.
-/
import Derived.Test.YtfgejhlgenaniaaDoorRows
import GoSem.ClaimSeven
namespace Go.Proofs.YtfgejhlgenaniaaDoor
namespace Rows

/-- THE TIED CARD OF 'greatseallaw12.ZoneAsks'. -/
def zoneAsksCard : Claim7 := { stood := { row := zoneAsksRow, standIns := [], harness := (true, "f7e9c2d7efd9e7f59fb7a1b9058089352cb35e6da7b7d649023d6c096646bcaa"), looks := false }, kinds := [], alts := [], laidByText := true, laidKinds := [.data, .pinned], laidTests := true, laidLooks := .later }
def ZoneAsksCardSaid : Prop := Claim7.holds Tryd.pinned (.plain (OpenSpec.ofChange zoneAsksSpec)) zoneAsksCard

/-- THE TIED CARD OF 'greatseallaw12.ZoneBests'. -/
def zoneBestsCard : Claim7 := { stood := { row := zoneBestsRow, standIns := [], harness := (true, "f7e9c2d7efd9e7f59fb7a1b9058089352cb35e6da7b7d649023d6c096646bcaa"), looks := false }, kinds := [], alts := [], laidByText := true, laidKinds := [.data, .pinned], laidTests := true, laidLooks := .later }
def ZoneBestsCardSaid : Prop := Claim7.holds Tryd.pinned (.plain (OpenSpec.ofChange zoneBestsSpec)) zoneBestsCard

/-- THE TIED CARD OF 'greatseallaw12.ZoneAll'. -/
def zoneAllCard : Claim7 := { stood := { row := zoneAllRow, standIns := [], harness := (true, "f7e9c2d7efd9e7f59fb7a1b9058089352cb35e6da7b7d649023d6c096646bcaa"), looks := false }, kinds := [], alts := [], laidByText := true, laidKinds := [.data, .pinned], laidTests := true, laidLooks := .later }
def ZoneAllCardSaid : Prop := Claim7.holds Tryd.pinned (.plain (OpenSpec.ofChange zoneAllSpec)) zoneAllCard

/-- THE TIED CARD OF 'greatseallaw12.ZoneCuts'. -/
def zoneCutsCard : Claim7 := { stood := { row := zoneCutsRow, standIns := [], harness := (true, "f7e9c2d7efd9e7f59fb7a1b9058089352cb35e6da7b7d649023d6c096646bcaa"), looks := false }, kinds := [], alts := [], laidByText := true, laidKinds := [.data, .pinned], laidTests := true, laidLooks := .later }
def ZoneCutsCardSaid : Prop := Claim7.holds Tryd.pinned (.plain (OpenSpec.ofChange zoneCutsSpec)) zoneCutsCard

/-- THE TIED CARD OF 'greatseallaw12.ZoneOrder'. -/
def zoneOrderCard : Claim7 := { stood := { row := zoneOrderRow, standIns := [], harness := (true, "f7e9c2d7efd9e7f59fb7a1b9058089352cb35e6da7b7d649023d6c096646bcaa"), looks := false }, kinds := [], alts := [], laidByText := true, laidKinds := [.data, .pinned], laidTests := true, laidLooks := .later }
def ZoneOrderCardSaid : Prop := Claim7.holds Tryd.pinned (.plain (OpenSpec.ofChange zoneOrderSpec)) zoneOrderCard

/-- THE TIED CARD OF 'greatseallaw12.ZoneNearest'. -/
def zoneNearestCard : Claim7 := { stood := { row := zoneNearestRow, standIns := [], harness := (true, "f7e9c2d7efd9e7f59fb7a1b9058089352cb35e6da7b7d649023d6c096646bcaa"), looks := false }, kinds := [], alts := [], laidByText := true, laidKinds := [.data, .pinned], laidTests := true, laidLooks := .later }
def ZoneNearestCardSaid : Prop := Claim7.holds Tryd.pinned (.plain (OpenSpec.ofChange zoneNearestSpec)) zoneNearestCard

/-- THE TIED CARD OF 'greatseallaw12.ZonePuts'. -/
def zonePutsCard : Claim7 := { stood := { row := zonePutsRow, standIns := [], harness := (true, "f7e9c2d7efd9e7f59fb7a1b9058089352cb35e6da7b7d649023d6c096646bcaa"), looks := false }, kinds := [], alts := [], laidByText := true, laidKinds := [.data, .pinned], laidTests := true, laidLooks := .later }
def ZonePutsCardSaid : Prop := Claim7.holds Tryd.pinned (.plain (OpenSpec.ofChange zonePutsSpec)) zonePutsCard

/-- THE TIED CARD OF 'greatseallaw12.ZoneTells'. -/
def zoneTellsCard : Claim7 := { stood := { row := zoneTellsRow, standIns := [], harness := (true, "f7e9c2d7efd9e7f59fb7a1b9058089352cb35e6da7b7d649023d6c096646bcaa"), looks := false }, kinds := [], alts := [], laidByText := true, laidKinds := [.data, .pinned], laidTests := true, laidLooks := .later }
def ZoneTellsCardSaid : Prop := Claim7.holds Tryd.pinned (.plain (OpenSpec.ofChange zoneTellsSpec)) zoneTellsCard

/-- THE TIED CARD OF 'greatseallaw12.ZoneBack'. -/
def zoneBackCard : Claim7 := { stood := { row := zoneBackRow, standIns := [], harness := (true, "f7e9c2d7efd9e7f59fb7a1b9058089352cb35e6da7b7d649023d6c096646bcaa"), looks := false }, kinds := [], alts := [], laidByText := true, laidKinds := [.data, .pinned], laidTests := true, laidLooks := .later }
def ZoneBackCardSaid : Prop := Claim7.holds Tryd.pinned (.plain (OpenSpec.ofChange zoneBackSpec)) zoneBackCard

/-- THE SECOND FORM's CARD OF 'greatseallaw12.ZoneAsks'. -/
def zoneAsksUptoCard : Claim7 := { stood := { row := zoneAsksUptoRow, standIns := [], harness := (true, "f7e9c2d7efd9e7f59fb7a1b9058089352cb35e6da7b7d649023d6c096646bcaa"), looks := false }, kinds := [], alts := [], laidByText := true, laidKinds := [.data, .pinned], laidTests := true, laidLooks := .later }
def ZoneAsksUptoCardSaid : Prop := Claim7.holds Tryd.pinned (.plain (OpenSpec.upto zoneAsksSpec)) zoneAsksUptoCard

/-- THE SECOND FORM's CARD OF 'greatseallaw12.ZoneBests'. -/
def zoneBestsUptoCard : Claim7 := { stood := { row := zoneBestsUptoRow, standIns := [], harness := (true, "f7e9c2d7efd9e7f59fb7a1b9058089352cb35e6da7b7d649023d6c096646bcaa"), looks := false }, kinds := [], alts := [], laidByText := true, laidKinds := [.data, .pinned], laidTests := true, laidLooks := .later }
def ZoneBestsUptoCardSaid : Prop := Claim7.holds Tryd.pinned (.plain (OpenSpec.upto zoneBestsSpec)) zoneBestsUptoCard

/-- THE SECOND FORM's CARD OF 'greatseallaw12.ZoneAll'. -/
def zoneAllUptoCard : Claim7 := { stood := { row := zoneAllUptoRow, standIns := [], harness := (true, "f7e9c2d7efd9e7f59fb7a1b9058089352cb35e6da7b7d649023d6c096646bcaa"), looks := false }, kinds := [], alts := [], laidByText := true, laidKinds := [.data, .pinned], laidTests := true, laidLooks := .later }
def ZoneAllUptoCardSaid : Prop := Claim7.holds Tryd.pinned (.plain (OpenSpec.upto zoneAllSpec)) zoneAllUptoCard

/-- THE SECOND FORM's CARD OF 'greatseallaw12.ZoneCuts'. -/
def zoneCutsUptoCard : Claim7 := { stood := { row := zoneCutsUptoRow, standIns := [], harness := (true, "f7e9c2d7efd9e7f59fb7a1b9058089352cb35e6da7b7d649023d6c096646bcaa"), looks := false }, kinds := [], alts := [], laidByText := true, laidKinds := [.data, .pinned], laidTests := true, laidLooks := .later }
def ZoneCutsUptoCardSaid : Prop := Claim7.holds Tryd.pinned (.plain (OpenSpec.upto zoneCutsSpec)) zoneCutsUptoCard

/-- THE SECOND FORM's CARD OF 'greatseallaw12.ZoneOrder'. -/
def zoneOrderUptoCard : Claim7 := { stood := { row := zoneOrderUptoRow, standIns := [], harness := (true, "f7e9c2d7efd9e7f59fb7a1b9058089352cb35e6da7b7d649023d6c096646bcaa"), looks := false }, kinds := [], alts := [], laidByText := true, laidKinds := [.data, .pinned], laidTests := true, laidLooks := .later }
def ZoneOrderUptoCardSaid : Prop := Claim7.holds Tryd.pinned (.plain (OpenSpec.upto zoneOrderSpec)) zoneOrderUptoCard

/-- THE SECOND FORM's CARD OF 'greatseallaw12.ZoneNearest'. -/
def zoneNearestUptoCard : Claim7 := { stood := { row := zoneNearestUptoRow, standIns := [], harness := (true, "f7e9c2d7efd9e7f59fb7a1b9058089352cb35e6da7b7d649023d6c096646bcaa"), looks := false }, kinds := [], alts := [], laidByText := true, laidKinds := [.data, .pinned], laidTests := true, laidLooks := .later }
def ZoneNearestUptoCardSaid : Prop := Claim7.holds Tryd.pinned (.plain (OpenSpec.upto zoneNearestSpec)) zoneNearestUptoCard

/-- THE SECOND FORM's CARD OF 'greatseallaw12.ZonePuts'. -/
def zonePutsUptoCard : Claim7 := { stood := { row := zonePutsUptoRow, standIns := [], harness := (true, "f7e9c2d7efd9e7f59fb7a1b9058089352cb35e6da7b7d649023d6c096646bcaa"), looks := false }, kinds := [], alts := [], laidByText := true, laidKinds := [.data, .pinned], laidTests := true, laidLooks := .later }
def ZonePutsUptoCardSaid : Prop := Claim7.holds Tryd.pinned (.plain (OpenSpec.upto zonePutsSpec)) zonePutsUptoCard

/-- THE SECOND FORM's CARD OF 'greatseallaw12.ZoneTells'. -/
def zoneTellsUptoCard : Claim7 := { stood := { row := zoneTellsUptoRow, standIns := [], harness := (true, "f7e9c2d7efd9e7f59fb7a1b9058089352cb35e6da7b7d649023d6c096646bcaa"), looks := false }, kinds := [], alts := [], laidByText := true, laidKinds := [.data, .pinned], laidTests := true, laidLooks := .later }
def ZoneTellsUptoCardSaid : Prop := Claim7.holds Tryd.pinned (.plain (OpenSpec.upto zoneTellsSpec)) zoneTellsUptoCard

/-- THE SECOND FORM's CARD OF 'greatseallaw12.ZoneBack'. -/
def zoneBackUptoCard : Claim7 := { stood := { row := zoneBackUptoRow, standIns := [], harness := (true, "f7e9c2d7efd9e7f59fb7a1b9058089352cb35e6da7b7d649023d6c096646bcaa"), looks := false }, kinds := [], alts := [], laidByText := true, laidKinds := [.data, .pinned], laidTests := true, laidLooks := .later }
def ZoneBackUptoCardSaid : Prop := Claim7.holds Tryd.pinned (.plain (OpenSpec.upto zoneBackSpec)) zoneBackUptoCard
end Rows
end Go.Proofs.YtfgejhlgenaniaaDoor
