/-
  DERIVED. GIVEN WITH THE SEED: THE CARDS: each row of YtdbacepjaibaoaaGreatDoorRows.lean that lists a variable, with what it lists TIED to the program's text (the seventh form; the later family's looks); each row that meets fmt, with fmt's text TOLD by the authors' own Lean function (tested against real Go, not proved from fmt's source: count such statements apart). THE CARD IS WHAT COUNTS. Prove the row's statement (the work); the ties are given (YtdbacepjaibaoaaGreatDoorTie.lean); close each card by the builder's one call (the guide's Derived/Test/ToyasCard.lean, 'card_holds'). Laid BY PROGRAM, IN A SANDBOX (cutbox-door.mjs). By AI agents, Wed Nov 11 2026. No macro, syntax, notation, axiom, sorry.
-/
import Derived.Test.YtdbacepjaibaoaaGreatDoorRows
import GoSem.ClaimSeven
namespace Go.Proofs.YtdbacepjaibaoaaGreatDoor
namespace Rows

/-- THE TIED CARD OF 'wharfingerlaw18.PullLists'. -/
def pullListsCard : Claim7 := { stood := { row := pullListsRow, standIns := [], harness := (true, "e697a22cb78fbf55731150b58d401acae0465f64f2afe144fe7de24010618c76"), looks := true }, kinds := [], alts := [], laidByText := true, laidKinds := [.data, .handle, .pinned], laidTests := true, laidLooks := .later }
def PullListsCardSaid : Prop := Claim7.holds Tryz.pinned (.plain (OpenSpec.ofChange pullListsSpec)) pullListsCard

/-- THE TIED CARD OF 'wharfingerlaw18.PullStays'. -/
def pullStaysCard : Claim7 := { stood := { row := pullStaysRow, standIns := [], harness := (true, "e697a22cb78fbf55731150b58d401acae0465f64f2afe144fe7de24010618c76"), looks := true }, kinds := [], alts := [], laidByText := true, laidKinds := [.data, .pinned], laidTests := true, laidLooks := .later }
def PullStaysCardSaid : Prop := Claim7.holds Tryz.pinned (.plain (OpenSpec.ofChange pullStaysSpec)) pullStaysCard

/-- THE TIED CARD OF 'wharfingerlaw11.ViewSame'. -/
def viewSameCard : Claim7 := { stood := { row := viewSameRow, standIns := [], harness := (true, "e697a22cb78fbf55731150b58d401acae0465f64f2afe144fe7de24010618c76"), looks := true }, kinds := [], alts := [], laidByText := true, laidKinds := [.data, .handle, .pinned], laidTests := true, laidLooks := .later }
def ViewSameCardSaid : Prop := Claim7.holds Tryz.pinned (.plain (OpenSpec.ofChange viewSameSpec)) viewSameCard

/-- THE SECOND FORM's CARD OF 'wharfingerlaw18.PullLists'. -/
def pullListsUptoCard : Claim7 := { stood := { row := pullListsUptoRow, standIns := [], harness := (true, "e697a22cb78fbf55731150b58d401acae0465f64f2afe144fe7de24010618c76"), looks := true }, kinds := [], alts := [], laidByText := true, laidKinds := [.data, .handle, .pinned], laidTests := true, laidLooks := .later }
def PullListsUptoCardSaid : Prop := Claim7.holds Tryz.pinned (.plain (OpenSpec.upto pullListsSpec)) pullListsUptoCard

/-- THE SECOND FORM's CARD OF 'wharfingerlaw18.PullStays'. -/
def pullStaysUptoCard : Claim7 := { stood := { row := pullStaysUptoRow, standIns := [], harness := (true, "e697a22cb78fbf55731150b58d401acae0465f64f2afe144fe7de24010618c76"), looks := true }, kinds := [], alts := [], laidByText := true, laidKinds := [.data, .pinned], laidTests := true, laidLooks := .later }
def PullStaysUptoCardSaid : Prop := Claim7.holds Tryz.pinned (.plain (OpenSpec.upto pullStaysSpec)) pullStaysUptoCard

/-- THE SECOND FORM's CARD OF 'wharfingerlaw11.ViewSame'. -/
def viewSameUptoCard : Claim7 := { stood := { row := viewSameUptoRow, standIns := [], harness := (true, "e697a22cb78fbf55731150b58d401acae0465f64f2afe144fe7de24010618c76"), looks := true }, kinds := [], alts := [], laidByText := true, laidKinds := [.data, .handle, .pinned], laidTests := true, laidLooks := .later }
def ViewSameUptoCardSaid : Prop := Claim7.holds Tryz.pinned (.plain (OpenSpec.upto viewSameSpec)) viewSameUptoCard
end Rows
end Go.Proofs.YtdbacepjaibaoaaGreatDoor
