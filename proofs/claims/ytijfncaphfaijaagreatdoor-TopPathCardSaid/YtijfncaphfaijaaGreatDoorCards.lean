/-
  DERIVED. GIVEN WITH THE SEED: THE CARDS: each row of YtijfncaphfaijaaGreatDoorRows.lean that lists a variable, with what it lists TIED to the program's text (the seventh form; the later family's looks); each row that meets fmt, with fmt's text TOLD by the authors' own Lean function (tested against real Go, not proved from fmt's source: count such statements apart). THE CARD IS WHAT COUNTS. Prove the row's statement (the work); the ties are given (YtijfncaphfaijaaGreatDoorTie.lean); close each card by the builder's one call (the guide's Derived/Test/ToyasCard.lean, 'card_holds'). Laid BY PROGRAM, IN A SANDBOX (cutbox-door.mjs). By AI agents, Wed Nov 11 2026. No macro, syntax, notation, axiom, sorry.
-/
import Derived.Test.YtijfncaphfaijaaGreatDoorRows
import GoSem.ClaimSeven
namespace Go.Proofs.YtijfncaphfaijaaGreatDoor
namespace Rows

/-- THE TIED CARD OF 'greatsealtop.TopCrew'. -/
def topCrewCard : Claim7 := { stood := { row := topCrewRow, standIns := [], harness := (true, "8ed7975a11d4062c657a7eaad76548e5ca5a87d3517188a811360051f00d747e"), looks := true }, kinds := [], alts := [], laidByText := true, laidKinds := [.data, .data, .data, .data, .sentinel, .sentinel, .funcsDeep, .pinned], laidTests := true, laidLooks := .later }
def TopCrewCardSaid : Prop := Claim7.holds Tryz.pinned (.plain (OpenSpec.ofChange topCrewSpec)) topCrewCard

/-- THE TIED CARD OF 'greatsealtop.TopPath'. -/
def topPathCard : Claim7 := { stood := { row := topPathRow, standIns := [], harness := (true, "8ed7975a11d4062c657a7eaad76548e5ca5a87d3517188a811360051f00d747e"), looks := true }, kinds := [], alts := [], laidByText := true, laidKinds := [.data, .data, .data, .data, .sentinel, .sentinel, .funcsDeep, .pinned], laidTests := true, laidLooks := .later }
def TopPathCardSaid : Prop := Claim7.holds Tryz.pinned (.plain (OpenSpec.ofChange topPathSpec)) topPathCard

/-- THE SECOND FORM's CARD OF 'greatsealtop.TopCrew'. -/
def topCrewUptoCard : Claim7 := { stood := { row := topCrewUptoRow, standIns := [], harness := (true, "8ed7975a11d4062c657a7eaad76548e5ca5a87d3517188a811360051f00d747e"), looks := true }, kinds := [], alts := [], laidByText := true, laidKinds := [.data, .data, .data, .data, .sentinel, .sentinel, .funcsDeep, .pinned], laidTests := true, laidLooks := .later }
def TopCrewUptoCardSaid : Prop := Claim7.holds Tryz.pinned (.plain (OpenSpec.upto topCrewSpec)) topCrewUptoCard

/-- THE SECOND FORM's CARD OF 'greatsealtop.TopPath'. -/
def topPathUptoCard : Claim7 := { stood := { row := topPathUptoRow, standIns := [], harness := (true, "8ed7975a11d4062c657a7eaad76548e5ca5a87d3517188a811360051f00d747e"), looks := true }, kinds := [], alts := [], laidByText := true, laidKinds := [.data, .data, .data, .data, .sentinel, .sentinel, .funcsDeep, .pinned], laidTests := true, laidLooks := .later }
def TopPathUptoCardSaid : Prop := Claim7.holds Tryz.pinned (.plain (OpenSpec.upto topPathSpec)) topPathUptoCard
end Rows
end Go.Proofs.YtijfncaphfaijaaGreatDoor
