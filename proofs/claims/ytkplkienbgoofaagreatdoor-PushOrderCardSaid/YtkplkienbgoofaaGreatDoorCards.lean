/-
  DERIVED. GIVEN WITH THE SEED: THE CARDS: each row of YtkplkienbgoofaaGreatDoorRows.lean that lists a variable, with what it lists TIED to the program's text (the seventh form; the later family's looks); each row that meets fmt, with fmt's text TOLD by the authors' own Lean function (tested against real Go, not proved from fmt's source: count such statements apart). THE CARD IS WHAT COUNTS. Prove the row's statement (the work); the ties are given (YtkplkienbgoofaaGreatDoorTie.lean); close each card by the builder's one call (the guide's Derived/Test/ToyasCard.lean, 'card_holds'). Laid BY PROGRAM, IN A SANDBOX (cutbox-door.mjs). By AI agents, Wed Nov 11 2026. No macro, syntax, notation, axiom, sorry.
-/
import Derived.Test.YtkplkienbgoofaaGreatDoorRows
import GoSem.ClaimSeven
namespace Go.Proofs.YtkplkienbgoofaaGreatDoor
namespace Rows

/-- THE TIED CARD OF 'wharfingerlaw18.PullLists'. -/
def pullListsCard : Claim7 := { stood := { row := pullListsRow, standIns := [], harness := (true, "f0e1cdd676cfa843de0201abc3b42fd006f9e7e391967dac6a390d833e3e481a"), looks := true }, kinds := [], alts := [], laidByText := true, laidKinds := [.data, .handle, .pinned], laidTests := true, laidLooks := .later }
def PullListsCardSaid : Prop := Claim7.holds Tryz.pinned (.plain (OpenSpec.ofChange pullListsSpec)) pullListsCard

/-- THE TIED CARD OF 'wharfingerlaw11.ViewSame'. -/
def viewSameCard : Claim7 := { stood := { row := viewSameRow, standIns := [], harness := (true, "f0e1cdd676cfa843de0201abc3b42fd006f9e7e391967dac6a390d833e3e481a"), looks := true }, kinds := [], alts := [], laidByText := true, laidKinds := [.data, .handle, .pinned], laidTests := true, laidLooks := .later }
def ViewSameCardSaid : Prop := Claim7.holds Tryz.pinned (.plain (OpenSpec.ofChange viewSameSpec)) viewSameCard

/-- THE TIED CARD OF 'wharfingerlaw11.ViewPlays'. -/
def viewPlaysCard : Claim7 := { stood := { row := viewPlaysRow, standIns := [], harness := (true, "f0e1cdd676cfa843de0201abc3b42fd006f9e7e391967dac6a390d833e3e481a"), looks := true }, kinds := [], alts := [], laidByText := true, laidKinds := [.data, .handle, .pinned], laidTests := true, laidLooks := .later }
def ViewPlaysCardSaid : Prop := Claim7.holds Tryz.pinned (.plain (OpenSpec.ofChange viewPlaysSpec)) viewPlaysCard

/-- THE TIED CARD OF 'wharfingerlaw18.PullGives'. -/
def pullGivesCard : Claim7 := { stood := { row := pullGivesRow, standIns := [], harness := (true, "f0e1cdd676cfa843de0201abc3b42fd006f9e7e391967dac6a390d833e3e481a"), looks := true }, kinds := [], alts := [], laidByText := true, laidKinds := [.data, .pinned], laidTests := true, laidLooks := .later }
def PullGivesCardSaid : Prop := Claim7.holds Tryz.pinned (.plain (OpenSpec.ofChange pullGivesSpec)) pullGivesCard

/-- THE TIED CARD OF 'wharfingerlaw17.PushRefuses'. -/
def pushRefusesCard : Claim7 := { stood := { row := pushRefusesRow, standIns := [], harness := (true, "f0e1cdd676cfa843de0201abc3b42fd006f9e7e391967dac6a390d833e3e481a"), looks := true }, kinds := [], alts := [], laidByText := true, laidKinds := [.data, .handle, .pinned], laidTests := true, laidLooks := .later }
def PushRefusesCardSaid : Prop := Claim7.holds Tryz.pinned (.plain (OpenSpec.ofChange pushRefusesSpec)) pushRefusesCard

/-- THE TIED CARD OF 'wharfingerlaw17.PushOrder'. -/
def pushOrderCard : Claim7 := { stood := { row := pushOrderRow, standIns := [], harness := (true, "f0e1cdd676cfa843de0201abc3b42fd006f9e7e391967dac6a390d833e3e481a"), looks := true }, kinds := [], alts := [], laidByText := true, laidKinds := [.data, .handle, .pinned], laidTests := true, laidLooks := .later }
def PushOrderCardSaid : Prop := Claim7.holds Tryz.pinned (.plain (OpenSpec.ofChange pushOrderSpec)) pushOrderCard

/-- THE SECOND FORM's CARD OF 'wharfingerlaw18.PullLists'. -/
def pullListsUptoCard : Claim7 := { stood := { row := pullListsUptoRow, standIns := [], harness := (true, "f0e1cdd676cfa843de0201abc3b42fd006f9e7e391967dac6a390d833e3e481a"), looks := true }, kinds := [], alts := [], laidByText := true, laidKinds := [.data, .handle, .pinned], laidTests := true, laidLooks := .later }
def PullListsUptoCardSaid : Prop := Claim7.holds Tryz.pinned (.plain (OpenSpec.upto pullListsSpec)) pullListsUptoCard

/-- THE SECOND FORM's CARD OF 'wharfingerlaw11.ViewSame'. -/
def viewSameUptoCard : Claim7 := { stood := { row := viewSameUptoRow, standIns := [], harness := (true, "f0e1cdd676cfa843de0201abc3b42fd006f9e7e391967dac6a390d833e3e481a"), looks := true }, kinds := [], alts := [], laidByText := true, laidKinds := [.data, .handle, .pinned], laidTests := true, laidLooks := .later }
def ViewSameUptoCardSaid : Prop := Claim7.holds Tryz.pinned (.plain (OpenSpec.upto viewSameSpec)) viewSameUptoCard

/-- THE SECOND FORM's CARD OF 'wharfingerlaw11.ViewPlays'. -/
def viewPlaysUptoCard : Claim7 := { stood := { row := viewPlaysUptoRow, standIns := [], harness := (true, "f0e1cdd676cfa843de0201abc3b42fd006f9e7e391967dac6a390d833e3e481a"), looks := true }, kinds := [], alts := [], laidByText := true, laidKinds := [.data, .handle, .pinned], laidTests := true, laidLooks := .later }
def ViewPlaysUptoCardSaid : Prop := Claim7.holds Tryz.pinned (.plain (OpenSpec.upto viewPlaysSpec)) viewPlaysUptoCard

/-- THE SECOND FORM's CARD OF 'wharfingerlaw18.PullGives'. -/
def pullGivesUptoCard : Claim7 := { stood := { row := pullGivesUptoRow, standIns := [], harness := (true, "f0e1cdd676cfa843de0201abc3b42fd006f9e7e391967dac6a390d833e3e481a"), looks := true }, kinds := [], alts := [], laidByText := true, laidKinds := [.data, .pinned], laidTests := true, laidLooks := .later }
def PullGivesUptoCardSaid : Prop := Claim7.holds Tryz.pinned (.plain (OpenSpec.upto pullGivesSpec)) pullGivesUptoCard

/-- THE SECOND FORM's CARD OF 'wharfingerlaw17.PushRefuses'. -/
def pushRefusesUptoCard : Claim7 := { stood := { row := pushRefusesUptoRow, standIns := [], harness := (true, "f0e1cdd676cfa843de0201abc3b42fd006f9e7e391967dac6a390d833e3e481a"), looks := true }, kinds := [], alts := [], laidByText := true, laidKinds := [.data, .handle, .pinned], laidTests := true, laidLooks := .later }
def PushRefusesUptoCardSaid : Prop := Claim7.holds Tryz.pinned (.plain (OpenSpec.upto pushRefusesSpec)) pushRefusesUptoCard

/-- THE SECOND FORM's CARD OF 'wharfingerlaw17.PushOrder'. -/
def pushOrderUptoCard : Claim7 := { stood := { row := pushOrderUptoRow, standIns := [], harness := (true, "f0e1cdd676cfa843de0201abc3b42fd006f9e7e391967dac6a390d833e3e481a"), looks := true }, kinds := [], alts := [], laidByText := true, laidKinds := [.data, .handle, .pinned], laidTests := true, laidLooks := .later }
def PushOrderUptoCardSaid : Prop := Claim7.holds Tryz.pinned (.plain (OpenSpec.upto pushOrderSpec)) pushOrderUptoCard
end Rows
end Go.Proofs.YtkplkienbgoofaaGreatDoor
