/-
  DERIVED. GIVEN WITH THE SEED: THE CARDS: each row of YtkhnfepnapgfaaaDoorRows.lean that lists a variable, with what it lists TIED to the program's text (the seventh form; the later family's looks); each row that meets fmt, with fmt's text TOLD by the authors' own Lean function (tested against real Go, not proved from fmt's source: count such statements apart). THE CARD IS WHAT COUNTS. Prove the row's statement (the work); the ties are given (YtkhnfepnapgfaaaDoorTie.lean); close each card by the builder's one call (the guide's Derived/Test/ToyasCard.lean, 'card_holds'). Laid BY PROGRAM, IN A SANDBOX (cutbox-door.mjs). By AI agents, Wed Nov 11 2026. No macro, syntax, notation, axiom, sorry.
-/
import Derived.Test.YtkhnfepnapgfaaaDoorRows
import GoSem.ClaimSeven
namespace Go.Proofs.YtkhnfepnapgfaaaDoor
namespace Rows

/-- THE TIED CARD OF 'wharfingerlaw12.LockAlone'. -/
def lockAloneCard : Claim7 := { stood := { row := lockAloneRow, standIns := [], harness := (true, "ce78565e1519851d9514391cf16b013b14beea271f3863d01b632164bd3ad65f"), looks := true }, kinds := [], alts := [], laidByText := true, laidKinds := [.data, .pinned], laidTests := true, laidLooks := .later }
def LockAloneCardSaid : Prop := Claim7.holds Tryd.pinned (.plain (OpenSpec.ofChange lockAloneSpec)) lockAloneCard

/-- THE TIED CARD OF 'wharfingerlaw12.LockEnds'. -/
def lockEndsCard : Claim7 := { stood := { row := lockEndsRow, standIns := [], harness := (true, "ce78565e1519851d9514391cf16b013b14beea271f3863d01b632164bd3ad65f"), looks := true }, kinds := [], alts := [], laidByText := true, laidKinds := [.data, .pinned], laidTests := true, laidLooks := .later }
def LockEndsCardSaid : Prop := Claim7.holds Tryd.pinned (.plain (OpenSpec.ofChange lockEndsSpec)) lockEndsCard

/-- THE TIED CARD OF 'wharfingerlaw12.LockAgain'. -/
def lockAgainCard : Claim7 := { stood := { row := lockAgainRow, standIns := [], harness := (true, "ce78565e1519851d9514391cf16b013b14beea271f3863d01b632164bd3ad65f"), looks := true }, kinds := [], alts := [], laidByText := true, laidKinds := [.data, .pinned], laidTests := true, laidLooks := .later }
def LockAgainCardSaid : Prop := Claim7.holds Tryd.pinned (.plain (OpenSpec.ofChange lockAgainSpec)) lockAgainCard

/-- THE TIED CARD OF 'wharfingerlaw09.PathChecks'. -/
def pathChecksCard : Claim7 := { stood := { row := pathChecksRow, standIns := [], harness := (true, "ce78565e1519851d9514391cf16b013b14beea271f3863d01b632164bd3ad65f"), looks := true }, kinds := [], alts := [], laidByText := true, laidKinds := [.data, .handle, .pinned], laidTests := true, laidLooks := .later }
def PathChecksCardSaid : Prop := Claim7.holds Tryd.pinned (.plain (OpenSpec.ofChange pathChecksSpec)) pathChecksCard

/-- THE TIED CARD OF 'wharfingerlaw09.PathBytes'. -/
def pathBytesCard : Claim7 := { stood := { row := pathBytesRow, standIns := [], harness := (true, "ce78565e1519851d9514391cf16b013b14beea271f3863d01b632164bd3ad65f"), looks := true }, kinds := [], alts := [], laidByText := true, laidKinds := [.data, .handle, .pinned], laidTests := true, laidLooks := .later }
def PathBytesCardSaid : Prop := Claim7.holds Tryd.pinned (.plain (OpenSpec.ofChange pathBytesSpec)) pathBytesCard

/-- THE TIED CARD OF 'wharfingerlaw09.PathShort'. -/
def pathShortCard : Claim7 := { stood := { row := pathShortRow, standIns := [], harness := (true, "ce78565e1519851d9514391cf16b013b14beea271f3863d01b632164bd3ad65f"), looks := true }, kinds := [], alts := [], laidByText := true, laidKinds := [.data, .handle, .pinned], laidTests := true, laidLooks := .later }
def PathShortCardSaid : Prop := Claim7.holds Tryd.pinned (.plain (OpenSpec.ofChange pathShortSpec)) pathShortCard

/-- THE TIED CARD OF 'wharfingerlaw09.PathBeneath'. -/
def pathBeneathCard : Claim7 := { stood := { row := pathBeneathRow, standIns := [], harness := (true, "ce78565e1519851d9514391cf16b013b14beea271f3863d01b632164bd3ad65f"), looks := true }, kinds := [], alts := [], laidByText := true, laidKinds := [.data, .handle, .pinned], laidTests := true, laidLooks := .later }
def PathBeneathCardSaid : Prop := Claim7.holds Tryd.pinned (.plain (OpenSpec.ofChange pathBeneathSpec)) pathBeneathCard

/-- THE TIED CARD OF 'wharfingerlaw09.PathJoins'. -/
def pathJoinsCard : Claim7 := { stood := { row := pathJoinsRow, standIns := [], harness := (true, "ce78565e1519851d9514391cf16b013b14beea271f3863d01b632164bd3ad65f"), looks := true }, kinds := [], alts := [], laidByText := true, laidKinds := [.data, .handle, .pinned], laidTests := true, laidLooks := .later }
def PathJoinsCardSaid : Prop := Claim7.holds Tryd.pinned (.plain (OpenSpec.ofChange pathJoinsSpec)) pathJoinsCard

/-- THE TIED CARD OF 'wharfingerlaw09.PathSets'. -/
def pathSetsCard : Claim7 := { stood := { row := pathSetsRow, standIns := [], harness := (true, "ce78565e1519851d9514391cf16b013b14beea271f3863d01b632164bd3ad65f"), looks := true }, kinds := [], alts := [], laidByText := true, laidKinds := [.data, .handle, .pinned], laidTests := true, laidLooks := .later }
def PathSetsCardSaid : Prop := Claim7.holds Tryd.pinned (.plain (OpenSpec.ofChange pathSetsSpec)) pathSetsCard

/-- THE TIED CARD OF 'wharfingerlaw12.LockPlays'. -/
def lockPlaysCard : Claim7 := { stood := { row := lockPlaysRow, standIns := [], harness := (true, "ce78565e1519851d9514391cf16b013b14beea271f3863d01b632164bd3ad65f"), looks := true }, kinds := [], alts := [], laidByText := true, laidKinds := [.data, .handle, .pinned], laidTests := true, laidLooks := .later }
def LockPlaysCardSaid : Prop := Claim7.holds Tryd.pinned (.plain (OpenSpec.ofChange lockPlaysSpec)) lockPlaysCard

/-- THE TIED CARD OF 'wharfingerlaw12.LockMany'. -/
def lockManyCard : Claim7 := { stood := { row := lockManyRow, standIns := [], harness := (true, "ce78565e1519851d9514391cf16b013b14beea271f3863d01b632164bd3ad65f"), looks := true }, kinds := [], alts := [], laidByText := true, laidKinds := [.data, .handle, .pinned], laidTests := true, laidLooks := .later }
def LockManyCardSaid : Prop := Claim7.holds Tryd.pinned (.plain (OpenSpec.ofChange lockManySpec)) lockManyCard

/-- THE TIED CARD OF 'wharfingerlaw09.PathLimits'. -/
def pathLimitsCard : Claim7 := { stood := { row := pathLimitsRow, standIns := [], harness := (true, "ce78565e1519851d9514391cf16b013b14beea271f3863d01b632164bd3ad65f"), looks := true }, kinds := [], alts := [], laidByText := true, laidKinds := [.data, .handle, .pinned], laidTests := true, laidLooks := .later }
def PathLimitsCardSaid : Prop := Claim7.holds Tryd.pinned (.plain (OpenSpec.ofChange pathLimitsSpec)) pathLimitsCard

/-- THE SECOND FORM's CARD OF 'wharfingerlaw12.LockAlone'. -/
def lockAloneUptoCard : Claim7 := { stood := { row := lockAloneUptoRow, standIns := [], harness := (true, "ce78565e1519851d9514391cf16b013b14beea271f3863d01b632164bd3ad65f"), looks := true }, kinds := [], alts := [], laidByText := true, laidKinds := [.data, .pinned], laidTests := true, laidLooks := .later }
def LockAloneUptoCardSaid : Prop := Claim7.holds Tryd.pinned (.plain (OpenSpec.upto lockAloneSpec)) lockAloneUptoCard

/-- THE SECOND FORM's CARD OF 'wharfingerlaw12.LockEnds'. -/
def lockEndsUptoCard : Claim7 := { stood := { row := lockEndsUptoRow, standIns := [], harness := (true, "ce78565e1519851d9514391cf16b013b14beea271f3863d01b632164bd3ad65f"), looks := true }, kinds := [], alts := [], laidByText := true, laidKinds := [.data, .pinned], laidTests := true, laidLooks := .later }
def LockEndsUptoCardSaid : Prop := Claim7.holds Tryd.pinned (.plain (OpenSpec.upto lockEndsSpec)) lockEndsUptoCard

/-- THE SECOND FORM's CARD OF 'wharfingerlaw12.LockAgain'. -/
def lockAgainUptoCard : Claim7 := { stood := { row := lockAgainUptoRow, standIns := [], harness := (true, "ce78565e1519851d9514391cf16b013b14beea271f3863d01b632164bd3ad65f"), looks := true }, kinds := [], alts := [], laidByText := true, laidKinds := [.data, .pinned], laidTests := true, laidLooks := .later }
def LockAgainUptoCardSaid : Prop := Claim7.holds Tryd.pinned (.plain (OpenSpec.upto lockAgainSpec)) lockAgainUptoCard

/-- THE SECOND FORM's CARD OF 'wharfingerlaw09.PathChecks'. -/
def pathChecksUptoCard : Claim7 := { stood := { row := pathChecksUptoRow, standIns := [], harness := (true, "ce78565e1519851d9514391cf16b013b14beea271f3863d01b632164bd3ad65f"), looks := true }, kinds := [], alts := [], laidByText := true, laidKinds := [.data, .handle, .pinned], laidTests := true, laidLooks := .later }
def PathChecksUptoCardSaid : Prop := Claim7.holds Tryd.pinned (.plain (OpenSpec.upto pathChecksSpec)) pathChecksUptoCard

/-- THE SECOND FORM's CARD OF 'wharfingerlaw09.PathBytes'. -/
def pathBytesUptoCard : Claim7 := { stood := { row := pathBytesUptoRow, standIns := [], harness := (true, "ce78565e1519851d9514391cf16b013b14beea271f3863d01b632164bd3ad65f"), looks := true }, kinds := [], alts := [], laidByText := true, laidKinds := [.data, .handle, .pinned], laidTests := true, laidLooks := .later }
def PathBytesUptoCardSaid : Prop := Claim7.holds Tryd.pinned (.plain (OpenSpec.upto pathBytesSpec)) pathBytesUptoCard

/-- THE SECOND FORM's CARD OF 'wharfingerlaw09.PathShort'. -/
def pathShortUptoCard : Claim7 := { stood := { row := pathShortUptoRow, standIns := [], harness := (true, "ce78565e1519851d9514391cf16b013b14beea271f3863d01b632164bd3ad65f"), looks := true }, kinds := [], alts := [], laidByText := true, laidKinds := [.data, .handle, .pinned], laidTests := true, laidLooks := .later }
def PathShortUptoCardSaid : Prop := Claim7.holds Tryd.pinned (.plain (OpenSpec.upto pathShortSpec)) pathShortUptoCard

/-- THE SECOND FORM's CARD OF 'wharfingerlaw09.PathBeneath'. -/
def pathBeneathUptoCard : Claim7 := { stood := { row := pathBeneathUptoRow, standIns := [], harness := (true, "ce78565e1519851d9514391cf16b013b14beea271f3863d01b632164bd3ad65f"), looks := true }, kinds := [], alts := [], laidByText := true, laidKinds := [.data, .handle, .pinned], laidTests := true, laidLooks := .later }
def PathBeneathUptoCardSaid : Prop := Claim7.holds Tryd.pinned (.plain (OpenSpec.upto pathBeneathSpec)) pathBeneathUptoCard

/-- THE SECOND FORM's CARD OF 'wharfingerlaw09.PathJoins'. -/
def pathJoinsUptoCard : Claim7 := { stood := { row := pathJoinsUptoRow, standIns := [], harness := (true, "ce78565e1519851d9514391cf16b013b14beea271f3863d01b632164bd3ad65f"), looks := true }, kinds := [], alts := [], laidByText := true, laidKinds := [.data, .handle, .pinned], laidTests := true, laidLooks := .later }
def PathJoinsUptoCardSaid : Prop := Claim7.holds Tryd.pinned (.plain (OpenSpec.upto pathJoinsSpec)) pathJoinsUptoCard

/-- THE SECOND FORM's CARD OF 'wharfingerlaw09.PathSets'. -/
def pathSetsUptoCard : Claim7 := { stood := { row := pathSetsUptoRow, standIns := [], harness := (true, "ce78565e1519851d9514391cf16b013b14beea271f3863d01b632164bd3ad65f"), looks := true }, kinds := [], alts := [], laidByText := true, laidKinds := [.data, .handle, .pinned], laidTests := true, laidLooks := .later }
def PathSetsUptoCardSaid : Prop := Claim7.holds Tryd.pinned (.plain (OpenSpec.upto pathSetsSpec)) pathSetsUptoCard

/-- THE SECOND FORM's CARD OF 'wharfingerlaw12.LockPlays'. -/
def lockPlaysUptoCard : Claim7 := { stood := { row := lockPlaysUptoRow, standIns := [], harness := (true, "ce78565e1519851d9514391cf16b013b14beea271f3863d01b632164bd3ad65f"), looks := true }, kinds := [], alts := [], laidByText := true, laidKinds := [.data, .handle, .pinned], laidTests := true, laidLooks := .later }
def LockPlaysUptoCardSaid : Prop := Claim7.holds Tryd.pinned (.plain (OpenSpec.upto lockPlaysSpec)) lockPlaysUptoCard

/-- THE SECOND FORM's CARD OF 'wharfingerlaw12.LockMany'. -/
def lockManyUptoCard : Claim7 := { stood := { row := lockManyUptoRow, standIns := [], harness := (true, "ce78565e1519851d9514391cf16b013b14beea271f3863d01b632164bd3ad65f"), looks := true }, kinds := [], alts := [], laidByText := true, laidKinds := [.data, .handle, .pinned], laidTests := true, laidLooks := .later }
def LockManyUptoCardSaid : Prop := Claim7.holds Tryd.pinned (.plain (OpenSpec.upto lockManySpec)) lockManyUptoCard

/-- THE SECOND FORM's CARD OF 'wharfingerlaw09.PathLimits'. -/
def pathLimitsUptoCard : Claim7 := { stood := { row := pathLimitsUptoRow, standIns := [], harness := (true, "ce78565e1519851d9514391cf16b013b14beea271f3863d01b632164bd3ad65f"), looks := true }, kinds := [], alts := [], laidByText := true, laidKinds := [.data, .handle, .pinned], laidTests := true, laidLooks := .later }
def PathLimitsUptoCardSaid : Prop := Claim7.holds Tryd.pinned (.plain (OpenSpec.upto pathLimitsSpec)) pathLimitsUptoCard
end Rows
end Go.Proofs.YtkhnfepnapgfaaaDoor
