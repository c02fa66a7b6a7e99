/-
  DERIVED. GIVEN WITH THE SEED: THE CARDS: each row of YtbkgceobmfcapaaGreatDoorRows.lean that lists a variable, with what it lists TIED to the program's text (the seventh form; the later family's looks); each row that meets fmt, with fmt's text TOLD by the authors' own Lean function (tested against real Go, not proved from fmt's source: count such statements apart). THE CARD IS WHAT COUNTS. Prove the row's statement (the work); the ties are given (YtbkgceobmfcapaaGreatDoorTie.lean); close each card by the builder's one call (the guide's Derived/Test/ToyasCard.lean, 'card_holds'). Laid BY PROGRAM, IN A SANDBOX (cutbox-door.mjs). By AI agents, Wed Nov 11 2026. No macro, syntax, notation, axiom, sorry.
-/
import Derived.Test.YtbkgceobmfcapaaGreatDoorRows
import GoSem.ClaimSeven
namespace Go.Proofs.YtbkgceobmfcapaaGreatDoor
namespace Rows

/-- THE TIED CARD OF 'greatseallaw14.ResolveFinds'. -/
def resolveFindsCard : Claim7 := { stood := { row := resolveFindsRow, standIns := [], harness := (true, "3a61b98b5cb65d1a8dd87b7544717d708be8bacda9c320c5b668bb892a8c9fa9"), looks := false }, kinds := [], alts := [], laidByText := true, laidKinds := [.data, .pinned], laidTests := true, laidLooks := .later }
def ResolveFindsCardSaid : Prop := Claim7.holds Tryz.pinned (.plain (OpenSpec.ofChange resolveFindsSpec)) resolveFindsCard

/-- THE TIED CARD OF 'greatseallaw14.ResolveKept'. -/
def resolveKeptCard : Claim7 := { stood := { row := resolveKeptRow, standIns := [], harness := (true, "3a61b98b5cb65d1a8dd87b7544717d708be8bacda9c320c5b668bb892a8c9fa9"), looks := false }, kinds := [], alts := [], laidByText := true, laidKinds := [.data, .pinned], laidTests := true, laidLooks := .later }
def ResolveKeptCardSaid : Prop := Claim7.holds Tryz.pinned (.plain (OpenSpec.ofChange resolveKeptSpec)) resolveKeptCard

/-- THE TIED CARD OF 'greatseallaw14.ResolveStands'. -/
def resolveStandsCard : Claim7 := { stood := { row := resolveStandsRow, standIns := [], harness := (true, "3a61b98b5cb65d1a8dd87b7544717d708be8bacda9c320c5b668bb892a8c9fa9"), looks := false }, kinds := [], alts := [], laidByText := true, laidKinds := [.data, .pinned], laidTests := true, laidLooks := .later }
def ResolveStandsCardSaid : Prop := Claim7.holds Tryz.pinned (.plain (OpenSpec.ofChange resolveStandsSpec)) resolveStandsCard

/-- THE TIED CARD OF 'greatseallaw14.ResolveStays'. -/
def resolveStaysCard : Claim7 := { stood := { row := resolveStaysRow, standIns := [], harness := (true, "3a61b98b5cb65d1a8dd87b7544717d708be8bacda9c320c5b668bb892a8c9fa9"), looks := false }, kinds := [], alts := [], laidByText := true, laidKinds := [.data, .pinned], laidTests := true, laidLooks := .later }
def ResolveStaysCardSaid : Prop := Claim7.holds Tryz.pinned (.plain (OpenSpec.ofChange resolveStaysSpec)) resolveStaysCard

/-- THE TIED CARD OF 'greatseallaw14.ResolveOthers'. -/
def resolveOthersCard : Claim7 := { stood := { row := resolveOthersRow, standIns := [], harness := (true, "3a61b98b5cb65d1a8dd87b7544717d708be8bacda9c320c5b668bb892a8c9fa9"), looks := false }, kinds := [], alts := [], laidByText := true, laidKinds := [.data, .pinned], laidTests := true, laidLooks := .later }
def ResolveOthersCardSaid : Prop := Claim7.holds Tryz.pinned (.plain (OpenSpec.ofChange resolveOthersSpec)) resolveOthersCard

/-- THE TIED CARD OF 'greatseallaw14.ResolveAlias'. -/
def resolveAliasCard : Claim7 := { stood := { row := resolveAliasRow, standIns := [], harness := (true, "3a61b98b5cb65d1a8dd87b7544717d708be8bacda9c320c5b668bb892a8c9fa9"), looks := false }, kinds := [], alts := [], laidByText := true, laidKinds := [.data, .pinned], laidTests := true, laidLooks := .later }
def ResolveAliasCardSaid : Prop := Claim7.holds Tryz.pinned (.plain (OpenSpec.ofChange resolveAliasSpec)) resolveAliasCard

/-- THE TIED CARD OF 'greatseallaw14.ResolveStraight'. -/
def resolveStraightCard : Claim7 := { stood := { row := resolveStraightRow, standIns := [], harness := (true, "3a61b98b5cb65d1a8dd87b7544717d708be8bacda9c320c5b668bb892a8c9fa9"), looks := false }, kinds := [], alts := [], laidByText := true, laidKinds := [.data, .pinned], laidTests := true, laidLooks := .later }
def ResolveStraightCardSaid : Prop := Claim7.holds Tryz.pinned (.plain (OpenSpec.ofChange resolveStraightSpec)) resolveStraightCard

/-- THE SECOND FORM's CARD OF 'greatseallaw14.ResolveFinds'. -/
def resolveFindsUptoCard : Claim7 := { stood := { row := resolveFindsUptoRow, standIns := [], harness := (true, "3a61b98b5cb65d1a8dd87b7544717d708be8bacda9c320c5b668bb892a8c9fa9"), looks := false }, kinds := [], alts := [], laidByText := true, laidKinds := [.data, .pinned], laidTests := true, laidLooks := .later }
def ResolveFindsUptoCardSaid : Prop := Claim7.holds Tryz.pinned (.plain (OpenSpec.upto resolveFindsSpec)) resolveFindsUptoCard

/-- THE SECOND FORM's CARD OF 'greatseallaw14.ResolveKept'. -/
def resolveKeptUptoCard : Claim7 := { stood := { row := resolveKeptUptoRow, standIns := [], harness := (true, "3a61b98b5cb65d1a8dd87b7544717d708be8bacda9c320c5b668bb892a8c9fa9"), looks := false }, kinds := [], alts := [], laidByText := true, laidKinds := [.data, .pinned], laidTests := true, laidLooks := .later }
def ResolveKeptUptoCardSaid : Prop := Claim7.holds Tryz.pinned (.plain (OpenSpec.upto resolveKeptSpec)) resolveKeptUptoCard

/-- THE SECOND FORM's CARD OF 'greatseallaw14.ResolveStands'. -/
def resolveStandsUptoCard : Claim7 := { stood := { row := resolveStandsUptoRow, standIns := [], harness := (true, "3a61b98b5cb65d1a8dd87b7544717d708be8bacda9c320c5b668bb892a8c9fa9"), looks := false }, kinds := [], alts := [], laidByText := true, laidKinds := [.data, .pinned], laidTests := true, laidLooks := .later }
def ResolveStandsUptoCardSaid : Prop := Claim7.holds Tryz.pinned (.plain (OpenSpec.upto resolveStandsSpec)) resolveStandsUptoCard

/-- THE SECOND FORM's CARD OF 'greatseallaw14.ResolveStays'. -/
def resolveStaysUptoCard : Claim7 := { stood := { row := resolveStaysUptoRow, standIns := [], harness := (true, "3a61b98b5cb65d1a8dd87b7544717d708be8bacda9c320c5b668bb892a8c9fa9"), looks := false }, kinds := [], alts := [], laidByText := true, laidKinds := [.data, .pinned], laidTests := true, laidLooks := .later }
def ResolveStaysUptoCardSaid : Prop := Claim7.holds Tryz.pinned (.plain (OpenSpec.upto resolveStaysSpec)) resolveStaysUptoCard

/-- THE SECOND FORM's CARD OF 'greatseallaw14.ResolveOthers'. -/
def resolveOthersUptoCard : Claim7 := { stood := { row := resolveOthersUptoRow, standIns := [], harness := (true, "3a61b98b5cb65d1a8dd87b7544717d708be8bacda9c320c5b668bb892a8c9fa9"), looks := false }, kinds := [], alts := [], laidByText := true, laidKinds := [.data, .pinned], laidTests := true, laidLooks := .later }
def ResolveOthersUptoCardSaid : Prop := Claim7.holds Tryz.pinned (.plain (OpenSpec.upto resolveOthersSpec)) resolveOthersUptoCard

/-- THE SECOND FORM's CARD OF 'greatseallaw14.ResolveAlias'. -/
def resolveAliasUptoCard : Claim7 := { stood := { row := resolveAliasUptoRow, standIns := [], harness := (true, "3a61b98b5cb65d1a8dd87b7544717d708be8bacda9c320c5b668bb892a8c9fa9"), looks := false }, kinds := [], alts := [], laidByText := true, laidKinds := [.data, .pinned], laidTests := true, laidLooks := .later }
def ResolveAliasUptoCardSaid : Prop := Claim7.holds Tryz.pinned (.plain (OpenSpec.upto resolveAliasSpec)) resolveAliasUptoCard

/-- THE SECOND FORM's CARD OF 'greatseallaw14.ResolveStraight'. -/
def resolveStraightUptoCard : Claim7 := { stood := { row := resolveStraightUptoRow, standIns := [], harness := (true, "3a61b98b5cb65d1a8dd87b7544717d708be8bacda9c320c5b668bb892a8c9fa9"), looks := false }, kinds := [], alts := [], laidByText := true, laidKinds := [.data, .pinned], laidTests := true, laidLooks := .later }
def ResolveStraightUptoCardSaid : Prop := Claim7.holds Tryz.pinned (.plain (OpenSpec.upto resolveStraightSpec)) resolveStraightUptoCard
end Rows
end Go.Proofs.YtbkgceobmfcapaaGreatDoor
