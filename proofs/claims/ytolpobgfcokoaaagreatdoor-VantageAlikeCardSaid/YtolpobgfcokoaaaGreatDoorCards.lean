/-
  DERIVED. GIVEN WITH THE SEED: THE CARDS: each row of YtolpobgfcokoaaaGreatDoorRows.lean that lists a variable, with what it lists TIED to the program's text (the seventh form; the later family's looks); each row that meets fmt, with fmt's text TOLD by the authors' own Lean function (tested against real Go, not proved from fmt's source: count such statements apart). THE CARD IS WHAT COUNTS. Prove the row's statement (the work); the ties are given (YtolpobgfcokoaaaGreatDoorTie.lean); close each card by the builder's one call (the guide's Derived/Test/ToyasCard.lean, 'card_holds'). Laid BY PROGRAM, IN A SANDBOX (cutbox-door.mjs). By AI agents, Wed Nov 11 2026. No macro, syntax, notation, axiom, sorry.
-/
import Derived.Test.YtolpobgfcokoaaaGreatDoorRows
import GoSem.ClaimSeven
namespace Go.Proofs.YtolpobgfcokoaaaGreatDoor
namespace Rows

/-- THE TIED CARD OF 'greatseallaw23.VantageLooks'. -/
def vantageLooksCard : Claim7 := { stood := { row := vantageLooksRow, standIns := [], harness := (true, "31872b3da7f18569cc9c268a9c4dab670074c5febffd4b770c937a9d39879647"), looks := false }, kinds := [], alts := [], laidByText := true, laidKinds := [.data, .pinned], laidTests := true, laidLooks := .later }
def VantageLooksCardSaid : Prop := Claim7.holds Tryz.pinned (.plain (OpenSpec.ofChange vantageLooksSpec)) vantageLooksCard

/-- THE TIED CARD OF 'greatseallaw23.VantageCaas'. -/
def vantageCaasCard : Claim7 := { stood := { row := vantageCaasRow, standIns := [], harness := (true, "31872b3da7f18569cc9c268a9c4dab670074c5febffd4b770c937a9d39879647"), looks := false }, kinds := [], alts := [], laidByText := true, laidKinds := [.data, .pinned], laidTests := true, laidLooks := .later }
def VantageCaasCardSaid : Prop := Claim7.holds Tryz.pinned (.plain (OpenSpec.ofChange vantageCaasSpec)) vantageCaasCard

/-- THE TIED CARD OF 'greatseallaw23.VantageOwn'. -/
def vantageOwnCard : Claim7 := { stood := { row := vantageOwnRow, standIns := [], harness := (true, "31872b3da7f18569cc9c268a9c4dab670074c5febffd4b770c937a9d39879647"), looks := false }, kinds := [], alts := [], laidByText := true, laidKinds := [.data, .pinned], laidTests := true, laidLooks := .later }
def VantageOwnCardSaid : Prop := Claim7.holds Tryz.pinned (.plain (OpenSpec.ofChange vantageOwnSpec)) vantageOwnCard

/-- THE TIED CARD OF 'greatseallaw23.VantageNeeds'. -/
def vantageNeedsCard : Claim7 := { stood := { row := vantageNeedsRow, standIns := [], harness := (true, "31872b3da7f18569cc9c268a9c4dab670074c5febffd4b770c937a9d39879647"), looks := false }, kinds := [], alts := [], laidByText := true, laidKinds := [.data, .pinned], laidTests := true, laidLooks := .later }
def VantageNeedsCardSaid : Prop := Claim7.holds Tryz.pinned (.plain (OpenSpec.ofChange vantageNeedsSpec)) vantageNeedsCard

/-- THE TIED CARD OF 'greatseallaw23.VantageFirst'. -/
def vantageFirstCard : Claim7 := { stood := { row := vantageFirstRow, standIns := [], harness := (true, "31872b3da7f18569cc9c268a9c4dab670074c5febffd4b770c937a9d39879647"), looks := false }, kinds := [], alts := [], laidByText := true, laidKinds := [.data, .pinned], laidTests := true, laidLooks := .later }
def VantageFirstCardSaid : Prop := Claim7.holds Tryz.pinned (.plain (OpenSpec.ofChange vantageFirstSpec)) vantageFirstCard

/-- THE TIED CARD OF 'greatseallaw23.VantageFree'. -/
def vantageFreeCard : Claim7 := { stood := { row := vantageFreeRow, standIns := [], harness := (true, "31872b3da7f18569cc9c268a9c4dab670074c5febffd4b770c937a9d39879647"), looks := false }, kinds := [], alts := [], laidByText := true, laidKinds := [.data, .pinned], laidTests := true, laidLooks := .later }
def VantageFreeCardSaid : Prop := Claim7.holds Tryz.pinned (.plain (OpenSpec.ofChange vantageFreeSpec)) vantageFreeCard

/-- THE TIED CARD OF 'greatseallaw23.VantageStays'. -/
def vantageStaysCard : Claim7 := { stood := { row := vantageStaysRow, standIns := [], harness := (true, "31872b3da7f18569cc9c268a9c4dab670074c5febffd4b770c937a9d39879647"), looks := false }, kinds := [], alts := [], laidByText := true, laidKinds := [.data, .pinned], laidTests := true, laidLooks := .later }
def VantageStaysCardSaid : Prop := Claim7.holds Tryz.pinned (.plain (OpenSpec.ofChange vantageStaysSpec)) vantageStaysCard

/-- THE TIED CARD OF 'greatseallaw23.VantageHonest'. -/
def vantageHonestCard : Claim7 := { stood := { row := vantageHonestRow, standIns := [], harness := (true, "31872b3da7f18569cc9c268a9c4dab670074c5febffd4b770c937a9d39879647"), looks := false }, kinds := [], alts := [], laidByText := true, laidKinds := [.data, .pinned], laidTests := true, laidLooks := .later }
def VantageHonestCardSaid : Prop := Claim7.holds Tryz.pinned (.plain (OpenSpec.ofChange vantageHonestSpec)) vantageHonestCard

/-- THE TIED CARD OF 'greatseallaw23.VantageAlike'. -/
def vantageAlikeCard : Claim7 := { stood := { row := vantageAlikeRow, standIns := [], harness := (true, "31872b3da7f18569cc9c268a9c4dab670074c5febffd4b770c937a9d39879647"), looks := false }, kinds := [], alts := [], laidByText := true, laidKinds := [.data, .pinned], laidTests := true, laidLooks := .later }
def VantageAlikeCardSaid : Prop := Claim7.holds Tryz.pinned (.plain (OpenSpec.ofChange vantageAlikeSpec)) vantageAlikeCard

/-- THE SECOND FORM's CARD OF 'greatseallaw23.VantageLooks'. -/
def vantageLooksUptoCard : Claim7 := { stood := { row := vantageLooksUptoRow, standIns := [], harness := (true, "31872b3da7f18569cc9c268a9c4dab670074c5febffd4b770c937a9d39879647"), looks := false }, kinds := [], alts := [], laidByText := true, laidKinds := [.data, .pinned], laidTests := true, laidLooks := .later }
def VantageLooksUptoCardSaid : Prop := Claim7.holds Tryz.pinned (.plain (OpenSpec.upto vantageLooksSpec)) vantageLooksUptoCard

/-- THE SECOND FORM's CARD OF 'greatseallaw23.VantageCaas'. -/
def vantageCaasUptoCard : Claim7 := { stood := { row := vantageCaasUptoRow, standIns := [], harness := (true, "31872b3da7f18569cc9c268a9c4dab670074c5febffd4b770c937a9d39879647"), looks := false }, kinds := [], alts := [], laidByText := true, laidKinds := [.data, .pinned], laidTests := true, laidLooks := .later }
def VantageCaasUptoCardSaid : Prop := Claim7.holds Tryz.pinned (.plain (OpenSpec.upto vantageCaasSpec)) vantageCaasUptoCard

/-- THE SECOND FORM's CARD OF 'greatseallaw23.VantageOwn'. -/
def vantageOwnUptoCard : Claim7 := { stood := { row := vantageOwnUptoRow, standIns := [], harness := (true, "31872b3da7f18569cc9c268a9c4dab670074c5febffd4b770c937a9d39879647"), looks := false }, kinds := [], alts := [], laidByText := true, laidKinds := [.data, .pinned], laidTests := true, laidLooks := .later }
def VantageOwnUptoCardSaid : Prop := Claim7.holds Tryz.pinned (.plain (OpenSpec.upto vantageOwnSpec)) vantageOwnUptoCard

/-- THE SECOND FORM's CARD OF 'greatseallaw23.VantageNeeds'. -/
def vantageNeedsUptoCard : Claim7 := { stood := { row := vantageNeedsUptoRow, standIns := [], harness := (true, "31872b3da7f18569cc9c268a9c4dab670074c5febffd4b770c937a9d39879647"), looks := false }, kinds := [], alts := [], laidByText := true, laidKinds := [.data, .pinned], laidTests := true, laidLooks := .later }
def VantageNeedsUptoCardSaid : Prop := Claim7.holds Tryz.pinned (.plain (OpenSpec.upto vantageNeedsSpec)) vantageNeedsUptoCard

/-- THE SECOND FORM's CARD OF 'greatseallaw23.VantageFirst'. -/
def vantageFirstUptoCard : Claim7 := { stood := { row := vantageFirstUptoRow, standIns := [], harness := (true, "31872b3da7f18569cc9c268a9c4dab670074c5febffd4b770c937a9d39879647"), looks := false }, kinds := [], alts := [], laidByText := true, laidKinds := [.data, .pinned], laidTests := true, laidLooks := .later }
def VantageFirstUptoCardSaid : Prop := Claim7.holds Tryz.pinned (.plain (OpenSpec.upto vantageFirstSpec)) vantageFirstUptoCard

/-- THE SECOND FORM's CARD OF 'greatseallaw23.VantageFree'. -/
def vantageFreeUptoCard : Claim7 := { stood := { row := vantageFreeUptoRow, standIns := [], harness := (true, "31872b3da7f18569cc9c268a9c4dab670074c5febffd4b770c937a9d39879647"), looks := false }, kinds := [], alts := [], laidByText := true, laidKinds := [.data, .pinned], laidTests := true, laidLooks := .later }
def VantageFreeUptoCardSaid : Prop := Claim7.holds Tryz.pinned (.plain (OpenSpec.upto vantageFreeSpec)) vantageFreeUptoCard

/-- THE SECOND FORM's CARD OF 'greatseallaw23.VantageStays'. -/
def vantageStaysUptoCard : Claim7 := { stood := { row := vantageStaysUptoRow, standIns := [], harness := (true, "31872b3da7f18569cc9c268a9c4dab670074c5febffd4b770c937a9d39879647"), looks := false }, kinds := [], alts := [], laidByText := true, laidKinds := [.data, .pinned], laidTests := true, laidLooks := .later }
def VantageStaysUptoCardSaid : Prop := Claim7.holds Tryz.pinned (.plain (OpenSpec.upto vantageStaysSpec)) vantageStaysUptoCard

/-- THE SECOND FORM's CARD OF 'greatseallaw23.VantageHonest'. -/
def vantageHonestUptoCard : Claim7 := { stood := { row := vantageHonestUptoRow, standIns := [], harness := (true, "31872b3da7f18569cc9c268a9c4dab670074c5febffd4b770c937a9d39879647"), looks := false }, kinds := [], alts := [], laidByText := true, laidKinds := [.data, .pinned], laidTests := true, laidLooks := .later }
def VantageHonestUptoCardSaid : Prop := Claim7.holds Tryz.pinned (.plain (OpenSpec.upto vantageHonestSpec)) vantageHonestUptoCard

/-- THE SECOND FORM's CARD OF 'greatseallaw23.VantageAlike'. -/
def vantageAlikeUptoCard : Claim7 := { stood := { row := vantageAlikeUptoRow, standIns := [], harness := (true, "31872b3da7f18569cc9c268a9c4dab670074c5febffd4b770c937a9d39879647"), looks := false }, kinds := [], alts := [], laidByText := true, laidKinds := [.data, .pinned], laidTests := true, laidLooks := .later }
def VantageAlikeUptoCardSaid : Prop := Claim7.holds Tryz.pinned (.plain (OpenSpec.upto vantageAlikeSpec)) vantageAlikeUptoCard
end Rows
end Go.Proofs.YtolpobgfcokoaaaGreatDoor
