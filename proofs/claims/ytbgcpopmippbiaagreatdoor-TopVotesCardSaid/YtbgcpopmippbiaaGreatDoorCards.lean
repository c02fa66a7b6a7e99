/-
  DERIVED. GIVEN WITH THE SEED: THE CARDS: each row of YtbgcpopmippbiaaGreatDoorRows.lean that lists a variable, with what it lists TIED to the program's text (the seventh form; the later family's looks); each row that meets fmt, with fmt's text TOLD by the authors' own Lean function (tested against real Go, not proved from fmt's source: count such statements apart). THE CARD IS WHAT COUNTS. Prove the row's statement (the work); the ties are given (YtbgcpopmippbiaaGreatDoorTie.lean); close each card by the builder's one call (the guide's Derived/Test/ToyasCard.lean, 'card_holds'). Laid BY PROGRAM, IN A SANDBOX (cutbox-door.mjs). By AI agents, Wed Nov 11 2026. No macro, syntax, notation, axiom, sorry.
-/
import Derived.Test.YtbgcpopmippbiaaGreatDoorRows
import GoSem.ClaimSeven
namespace Go.Proofs.YtbgcpopmippbiaaGreatDoor
namespace Rows

/-- THE TIED CARD OF 'greatsealtop.TopVotes'. -/
def topVotesCard : Claim7 := { stood := { row := topVotesRow, standIns := [], harness := (true, "0e4dfb5bfdcc2535c937e972ddf4e82fe279008eee388371dca17def0d6f3d05"), looks := true }, kinds := [], alts := [], laidByText := true, laidKinds := [.data, .data, .data, .data, .sentinel, .sentinel, .funcsDeep, .pinned], laidTests := true, laidLooks := .later }
def TopVotesCardSaid : Prop := Claim7.holds Tryz.pinned (.plain (OpenSpec.ofChange topVotesSpec)) topVotesCard

/-- THE TIED CARD OF 'greatsealtop.TopFinds'. -/
def topFindsCard : Claim7 := { stood := { row := topFindsRow, standIns := [], harness := (true, "0e4dfb5bfdcc2535c937e972ddf4e82fe279008eee388371dca17def0d6f3d05"), looks := true }, kinds := [], alts := [], laidByText := true, laidKinds := [.data, .data, .data, .data, .sentinel, .sentinel, .funcsDeep, .pinned], laidTests := true, laidLooks := .later }
def TopFindsCardSaid : Prop := Claim7.holds Tryz.pinned (.plain (OpenSpec.ofChange topFindsSpec)) topFindsCard

/-- THE SECOND FORM's CARD OF 'greatsealtop.TopVotes'. -/
def topVotesUptoCard : Claim7 := { stood := { row := topVotesUptoRow, standIns := [], harness := (true, "0e4dfb5bfdcc2535c937e972ddf4e82fe279008eee388371dca17def0d6f3d05"), looks := true }, kinds := [], alts := [], laidByText := true, laidKinds := [.data, .data, .data, .data, .sentinel, .sentinel, .funcsDeep, .pinned], laidTests := true, laidLooks := .later }
def TopVotesUptoCardSaid : Prop := Claim7.holds Tryz.pinned (.plain (OpenSpec.upto topVotesSpec)) topVotesUptoCard

/-- THE SECOND FORM's CARD OF 'greatsealtop.TopFinds'. -/
def topFindsUptoCard : Claim7 := { stood := { row := topFindsUptoRow, standIns := [], harness := (true, "0e4dfb5bfdcc2535c937e972ddf4e82fe279008eee388371dca17def0d6f3d05"), looks := true }, kinds := [], alts := [], laidByText := true, laidKinds := [.data, .data, .data, .data, .sentinel, .sentinel, .funcsDeep, .pinned], laidTests := true, laidLooks := .later }
def TopFindsUptoCardSaid : Prop := Claim7.holds Tryz.pinned (.plain (OpenSpec.upto topFindsSpec)) topFindsUptoCard
end Rows
end Go.Proofs.YtbgcpopmippbiaaGreatDoor
