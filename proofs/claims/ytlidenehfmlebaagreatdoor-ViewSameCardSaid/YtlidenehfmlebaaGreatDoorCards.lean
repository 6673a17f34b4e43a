/-
  DERIVED. GIVEN WITH THE SEED: THE CARDS: each row of YtlidenehfmlebaaGreatDoorRows.lean that lists a variable, with what it lists TIED to the program's text (the seventh form; the later family's looks); each row that meets fmt, with fmt's text TOLD by the authors' own Lean function (tested against real Go, not proved from fmt's source: count such statements apart). THE CARD IS WHAT COUNTS. Prove the row's statement (the work); the ties are given (YtlidenehfmlebaaGreatDoorTie.lean); close each card by the builder's one call (the guide's Derived/Test/ToyasCard.lean, 'card_holds'). Laid BY PROGRAM, IN A SANDBOX (cutbox-door.mjs). By AI agents, Wed Nov 11 2026. No macro, syntax, notation, axiom, sorry.
-/
import Derived.Test.YtlidenehfmlebaaGreatDoorRows
import GoSem.ClaimSeven
namespace Go.Proofs.YtlidenehfmlebaaGreatDoor
namespace Rows

/-- THE TIED CARD OF 'wharfingerlaw11.ViewPlays'. -/
def viewPlaysCard : Claim7 := { stood := { row := viewPlaysRow, standIns := [], harness := (true, "b85b1bf125b68c10cd7ac826d9c38a379201a519b409bfa19fb750864950b995"), looks := true }, kinds := [], alts := [], laidByText := true, laidKinds := [.data, .handle, .pinned], laidTests := true, laidLooks := .later }
def ViewPlaysCardSaid : Prop := Claim7.holds Tryz.pinned (.plain (OpenSpec.ofChange viewPlaysSpec)) viewPlaysCard

/-- THE TIED CARD OF 'wharfingerlaw11.ViewSame'. -/
def viewSameCard : Claim7 := { stood := { row := viewSameRow, standIns := [], harness := (true, "b85b1bf125b68c10cd7ac826d9c38a379201a519b409bfa19fb750864950b995"), looks := true }, kinds := [], alts := [], laidByText := true, laidKinds := [.data, .handle, .pinned], laidTests := true, laidLooks := .later }
def ViewSameCardSaid : Prop := Claim7.holds Tryz.pinned (.plain (OpenSpec.ofChange viewSameSpec)) viewSameCard

/-- THE TIED CARD OF 'wharfingerlaw18.PullGives'. -/
def pullGivesCard : Claim7 := { stood := { row := pullGivesRow, standIns := [], harness := (true, "b85b1bf125b68c10cd7ac826d9c38a379201a519b409bfa19fb750864950b995"), looks := true }, kinds := [], alts := [], laidByText := true, laidKinds := [.data, .pinned], laidTests := true, laidLooks := .later }
def PullGivesCardSaid : Prop := Claim7.holds Tryz.pinned (.plain (OpenSpec.ofChange pullGivesSpec)) pullGivesCard

/-- THE SECOND FORM's CARD OF 'wharfingerlaw11.ViewPlays'. -/
def viewPlaysUptoCard : Claim7 := { stood := { row := viewPlaysUptoRow, standIns := [], harness := (true, "b85b1bf125b68c10cd7ac826d9c38a379201a519b409bfa19fb750864950b995"), looks := true }, kinds := [], alts := [], laidByText := true, laidKinds := [.data, .handle, .pinned], laidTests := true, laidLooks := .later }
def ViewPlaysUptoCardSaid : Prop := Claim7.holds Tryz.pinned (.plain (OpenSpec.upto viewPlaysSpec)) viewPlaysUptoCard

/-- THE SECOND FORM's CARD OF 'wharfingerlaw11.ViewSame'. -/
def viewSameUptoCard : Claim7 := { stood := { row := viewSameUptoRow, standIns := [], harness := (true, "b85b1bf125b68c10cd7ac826d9c38a379201a519b409bfa19fb750864950b995"), looks := true }, kinds := [], alts := [], laidByText := true, laidKinds := [.data, .handle, .pinned], laidTests := true, laidLooks := .later }
def ViewSameUptoCardSaid : Prop := Claim7.holds Tryz.pinned (.plain (OpenSpec.upto viewSameSpec)) viewSameUptoCard

/-- THE SECOND FORM's CARD OF 'wharfingerlaw18.PullGives'. -/
def pullGivesUptoCard : Claim7 := { stood := { row := pullGivesUptoRow, standIns := [], harness := (true, "b85b1bf125b68c10cd7ac826d9c38a379201a519b409bfa19fb750864950b995"), looks := true }, kinds := [], alts := [], laidByText := true, laidKinds := [.data, .pinned], laidTests := true, laidLooks := .later }
def PullGivesUptoCardSaid : Prop := Claim7.holds Tryz.pinned (.plain (OpenSpec.upto pullGivesSpec)) pullGivesUptoCard
end Rows
end Go.Proofs.YtlidenehfmlebaaGreatDoor
