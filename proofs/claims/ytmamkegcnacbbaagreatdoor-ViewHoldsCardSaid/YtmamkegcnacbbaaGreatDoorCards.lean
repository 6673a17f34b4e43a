/-
  DERIVED. GIVEN WITH THE SEED: THE CARDS: each row of YtmamkegcnacbbaaGreatDoorRows.lean that lists a variable, with what it lists TIED to the program's text (the seventh form; the later family's looks); each row that meets fmt, with fmt's text TOLD by the authors' own Lean function (tested against real Go, not proved from fmt's source: count such statements apart). THE CARD IS WHAT COUNTS. Prove the row's statement (the work); the ties are given (YtmamkegcnacbbaaGreatDoorTie.lean); close each card by the builder's one call (the guide's Derived/Test/ToyasCard.lean, 'card_holds'). Laid BY PROGRAM, IN A SANDBOX (cutbox-door.mjs). By AI agents, Wed Nov 11 2026. No macro, syntax, notation, axiom, sorry.
-/
import Derived.Test.YtmamkegcnacbbaaGreatDoorRows
import GoSem.ClaimSeven
namespace Go.Proofs.YtmamkegcnacbbaaGreatDoor
namespace Rows

/-- THE TIED CARD OF 'wharfingerlaw11.ViewPlays'. -/
def viewPlaysCard : Claim7 := { stood := { row := viewPlaysRow, standIns := [], harness := (true, "d98df32cee15dca5a040e53789dc2b45c6d6174e4a2996acbe7e0c458869ac53"), looks := true }, kinds := [], alts := [], laidByText := true, laidKinds := [.data, .handle, .pinned], laidTests := true, laidLooks := .later }
def ViewPlaysCardSaid : Prop := Claim7.holds Tryz.pinned (.plain (OpenSpec.ofChange viewPlaysSpec)) viewPlaysCard

/-- THE TIED CARD OF 'wharfingerlaw11.ViewHolds'. -/
def viewHoldsCard : Claim7 := { stood := { row := viewHoldsRow, standIns := [], harness := (true, "d98df32cee15dca5a040e53789dc2b45c6d6174e4a2996acbe7e0c458869ac53"), looks := true }, kinds := [], alts := [], laidByText := true, laidKinds := [.data, .handle, .pinned], laidTests := true, laidLooks := .later }
def ViewHoldsCardSaid : Prop := Claim7.holds Tryz.pinned (.plain (OpenSpec.ofChange viewHoldsSpec)) viewHoldsCard

/-- THE SECOND FORM's CARD OF 'wharfingerlaw11.ViewPlays'. -/
def viewPlaysUptoCard : Claim7 := { stood := { row := viewPlaysUptoRow, standIns := [], harness := (true, "d98df32cee15dca5a040e53789dc2b45c6d6174e4a2996acbe7e0c458869ac53"), looks := true }, kinds := [], alts := [], laidByText := true, laidKinds := [.data, .handle, .pinned], laidTests := true, laidLooks := .later }
def ViewPlaysUptoCardSaid : Prop := Claim7.holds Tryz.pinned (.plain (OpenSpec.upto viewPlaysSpec)) viewPlaysUptoCard

/-- THE SECOND FORM's CARD OF 'wharfingerlaw11.ViewHolds'. -/
def viewHoldsUptoCard : Claim7 := { stood := { row := viewHoldsUptoRow, standIns := [], harness := (true, "d98df32cee15dca5a040e53789dc2b45c6d6174e4a2996acbe7e0c458869ac53"), looks := true }, kinds := [], alts := [], laidByText := true, laidKinds := [.data, .handle, .pinned], laidTests := true, laidLooks := .later }
def ViewHoldsUptoCardSaid : Prop := Claim7.holds Tryz.pinned (.plain (OpenSpec.upto viewHoldsSpec)) viewHoldsUptoCard
end Rows
end Go.Proofs.YtmamkegcnacbbaaGreatDoor
