/-
  DERIVED. GIVEN WITH THE SEED: THE CARDS: each row of YtpicbimhgicnmaaGreatDoorRows.lean that lists a variable, with what it lists TIED to the program's text (the seventh form; the later family's looks); each row that meets fmt, with fmt's text TOLD by the authors' own Lean function (tested against real Go, not proved from fmt's source: count such statements apart). THE CARD IS WHAT COUNTS. Prove the row's statement (the work); the ties are given (YtpicbimhgicnmaaGreatDoorTie.lean); close each card by the builder's one call (the guide's Derived/Test/ToyasCard.lean, 'card_holds'). Laid BY PROGRAM, IN A SANDBOX (cutbox-door.mjs). By AI agents, Wed Nov 11 2026. No macro, syntax, notation, axiom, sorry.
-/
import Derived.Test.YtpicbimhgicnmaaGreatDoorRows
import GoSem.ClaimSeven
namespace Go.Proofs.YtpicbimhgicnmaaGreatDoor
namespace Rows

/-- THE TIED CARD OF 'wharfingerlaw11.ViewLittle'. -/
def viewLittleCard : Claim7 := { stood := { row := viewLittleRow, standIns := [], harness := (true, "f2d7c85b87e264155f4167511b504633504df63c7cea43b1791bee5fa1d2d583"), looks := true }, kinds := [], alts := [], laidByText := true, laidKinds := [.data, .handle, .pinned], laidTests := true, laidLooks := .later }
def ViewLittleCardSaid : Prop := Claim7.holds Tryz.pinned (.plain (OpenSpec.ofChange viewLittleSpec)) viewLittleCard

/-- THE TIED CARD OF 'wharfingerlaw11.ViewSame'. -/
def viewSameCard : Claim7 := { stood := { row := viewSameRow, standIns := [], harness := (true, "f2d7c85b87e264155f4167511b504633504df63c7cea43b1791bee5fa1d2d583"), looks := true }, kinds := [], alts := [], laidByText := true, laidKinds := [.data, .handle, .pinned], laidTests := true, laidLooks := .later }
def ViewSameCardSaid : Prop := Claim7.holds Tryz.pinned (.plain (OpenSpec.ofChange viewSameSpec)) viewSameCard

/-- THE SECOND FORM's CARD OF 'wharfingerlaw11.ViewLittle'. -/
def viewLittleUptoCard : Claim7 := { stood := { row := viewLittleUptoRow, standIns := [], harness := (true, "f2d7c85b87e264155f4167511b504633504df63c7cea43b1791bee5fa1d2d583"), looks := true }, kinds := [], alts := [], laidByText := true, laidKinds := [.data, .handle, .pinned], laidTests := true, laidLooks := .later }
def ViewLittleUptoCardSaid : Prop := Claim7.holds Tryz.pinned (.plain (OpenSpec.upto viewLittleSpec)) viewLittleUptoCard

/-- THE SECOND FORM's CARD OF 'wharfingerlaw11.ViewSame'. -/
def viewSameUptoCard : Claim7 := { stood := { row := viewSameUptoRow, standIns := [], harness := (true, "f2d7c85b87e264155f4167511b504633504df63c7cea43b1791bee5fa1d2d583"), looks := true }, kinds := [], alts := [], laidByText := true, laidKinds := [.data, .handle, .pinned], laidTests := true, laidLooks := .later }
def ViewSameUptoCardSaid : Prop := Claim7.holds Tryz.pinned (.plain (OpenSpec.upto viewSameSpec)) viewSameUptoCard
end Rows
end Go.Proofs.YtpicbimhgicnmaaGreatDoor
