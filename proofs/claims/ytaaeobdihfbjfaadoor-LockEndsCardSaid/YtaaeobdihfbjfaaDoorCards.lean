/-
  DERIVED. GIVEN WITH THE SEED: THE CARDS: each row of YtaaeobdihfbjfaaDoorRows.lean that lists a variable, with what it lists TIED to the program's text (the seventh form; the later family's looks); each row that meets fmt, with fmt's text TOLD by the authors' own Lean function (tested against real Go, not proved from fmt's source: count such statements apart). THE CARD IS WHAT COUNTS. Prove the row's statement (the work); the ties are given (YtaaeobdihfbjfaaDoorTie.lean); close each card by the builder's one call (the guide's Derived/Test/ToyasCard.lean, 'card_holds'). Laid BY PROGRAM, IN A SANDBOX (cutbox-door.mjs). By AI agents, Wed Nov 11 2026. No macro, syntax, notation, axiom, sorry.
-/
import Derived.Test.YtaaeobdihfbjfaaDoorRows
import GoSem.ClaimSeven
namespace Go.Proofs.YtaaeobdihfbjfaaDoor
namespace Rows

/-- THE TIED CARD OF 'wharfingerlaw12.LockAlone'. -/
def lockAloneCard : Claim7 := { stood := { row := lockAloneRow, standIns := [], harness := (true, "aa11aeae9bea043e49cf3255864746477c0076d5f418e5418d26c7955184bf06"), looks := true }, kinds := [], alts := [], laidByText := true, laidKinds := [.data, .pinned], laidTests := true, laidLooks := .later }
def LockAloneCardSaid : Prop := Claim7.holds Tryd.pinned (.plain (OpenSpec.ofChange lockAloneSpec)) lockAloneCard

/-- THE TIED CARD OF 'wharfingerlaw12.LockEnds'. -/
def lockEndsCard : Claim7 := { stood := { row := lockEndsRow, standIns := [], harness := (true, "aa11aeae9bea043e49cf3255864746477c0076d5f418e5418d26c7955184bf06"), looks := true }, kinds := [], alts := [], laidByText := true, laidKinds := [.data, .pinned], laidTests := true, laidLooks := .later }
def LockEndsCardSaid : Prop := Claim7.holds Tryd.pinned (.plain (OpenSpec.ofChange lockEndsSpec)) lockEndsCard

/-- THE TIED CARD OF 'wharfingerlaw12.LockPlays'. -/
def lockPlaysCard : Claim7 := { stood := { row := lockPlaysRow, standIns := [], harness := (true, "aa11aeae9bea043e49cf3255864746477c0076d5f418e5418d26c7955184bf06"), looks := true }, kinds := [], alts := [], laidByText := true, laidKinds := [.data, .handle, .pinned], laidTests := true, laidLooks := .later }
def LockPlaysCardSaid : Prop := Claim7.holds Tryd.pinned (.plain (OpenSpec.ofChange lockPlaysSpec)) lockPlaysCard

/-- THE TIED CARD OF 'wharfingerlaw23.StoryPaths'. -/
def storyPathsCard : Claim7 := { stood := { row := storyPathsRow, standIns := [], harness := (true, "aa11aeae9bea043e49cf3255864746477c0076d5f418e5418d26c7955184bf06"), looks := true }, kinds := [], alts := [], laidByText := true, laidKinds := [.handle], laidTests := true, laidLooks := .later }
def StoryPathsCardSaid : Prop := Claim7.holds Tryd.pinned (.plain (OpenSpec.ofChange storyPathsSpec)) storyPathsCard

/-- THE TIED CARD OF 'wharfingerlaw23.StoryBegins'. -/
def storyBeginsCard : Claim7 := { stood := { row := storyBeginsRow, standIns := [], harness := (true, "aa11aeae9bea043e49cf3255864746477c0076d5f418e5418d26c7955184bf06"), looks := true }, kinds := [], alts := [], laidByText := true, laidKinds := [.handle], laidTests := true, laidLooks := .later }
def StoryBeginsCardSaid : Prop := Claim7.holds Tryd.pinned (.plain (OpenSpec.ofChange storyBeginsSpec)) storyBeginsCard

/-- THE TIED CARD OF 'wharfingerlaw23.StoryPushes'. -/
def storyPushesCard : Claim7 := { stood := { row := storyPushesRow, standIns := [], harness := (true, "aa11aeae9bea043e49cf3255864746477c0076d5f418e5418d26c7955184bf06"), looks := true }, kinds := [], alts := [], laidByText := true, laidKinds := [.handle], laidTests := true, laidLooks := .later }
def StoryPushesCardSaid : Prop := Claim7.holds Tryd.pinned (.plain (OpenSpec.ofChange storyPushesSpec)) storyPushesCard

/-- THE TIED CARD OF 'wharfingerlaw23.StoryReads'. -/
def storyReadsCard : Claim7 := { stood := { row := storyReadsRow, standIns := [], harness := (true, "aa11aeae9bea043e49cf3255864746477c0076d5f418e5418d26c7955184bf06"), looks := true }, kinds := [], alts := [], laidByText := true, laidKinds := [.handle], laidTests := true, laidLooks := .later }
def StoryReadsCardSaid : Prop := Claim7.holds Tryd.pinned (.plain (OpenSpec.ofChange storyReadsSpec)) storyReadsCard

/-- THE TIED CARD OF 'wharfingerlaw10.TreeAll'. -/
def treeAllCard : Claim7 := { stood := { row := treeAllRow, standIns := [], harness := (true, "aa11aeae9bea043e49cf3255864746477c0076d5f418e5418d26c7955184bf06"), looks := true }, kinds := [], alts := [], laidByText := true, laidKinds := [.data, .pinned], laidTests := true, laidLooks := .later }
def TreeAllCardSaid : Prop := Claim7.holds Tryd.pinned (.plain (OpenSpec.ofChange treeAllSpec)) treeAllCard

/-- THE TIED CARD OF 'wharfingerlaw10.TreeOwn'. -/
def treeOwnCard : Claim7 := { stood := { row := treeOwnRow, standIns := [], harness := (true, "aa11aeae9bea043e49cf3255864746477c0076d5f418e5418d26c7955184bf06"), looks := true }, kinds := [], alts := [], laidByText := true, laidKinds := [.data, .pinned], laidTests := true, laidLooks := .later }
def TreeOwnCardSaid : Prop := Claim7.holds Tryd.pinned (.plain (OpenSpec.ofChange treeOwnSpec)) treeOwnCard

/-- THE TIED CARD OF 'wharfingerlaw10.TreeCounts'. -/
def treeCountsCard : Claim7 := { stood := { row := treeCountsRow, standIns := [], harness := (true, "aa11aeae9bea043e49cf3255864746477c0076d5f418e5418d26c7955184bf06"), looks := true }, kinds := [], alts := [], laidByText := true, laidKinds := [.data, .pinned], laidTests := true, laidLooks := .later }
def TreeCountsCardSaid : Prop := Claim7.holds Tryd.pinned (.plain (OpenSpec.ofChange treeCountsSpec)) treeCountsCard

/-- THE TIED CARD OF 'wharfingerlaw10.TreeStays'. -/
def treeStaysCard : Claim7 := { stood := { row := treeStaysRow, standIns := [], harness := (true, "aa11aeae9bea043e49cf3255864746477c0076d5f418e5418d26c7955184bf06"), looks := true }, kinds := [], alts := [], laidByText := true, laidKinds := [.data, .pinned], laidTests := true, laidLooks := .later }
def TreeStaysCardSaid : Prop := Claim7.holds Tryd.pinned (.plain (OpenSpec.ofChange treeStaysSpec)) treeStaysCard

/-- THE TIED CARD OF 'wharfingerlaw11.ViewFull'. -/
def viewFullCard : Claim7 := { stood := { row := viewFullRow, standIns := [], harness := (true, "aa11aeae9bea043e49cf3255864746477c0076d5f418e5418d26c7955184bf06"), looks := true }, kinds := [], alts := [], laidByText := true, laidKinds := [.data, .pinned], laidTests := true, laidLooks := .later }
def ViewFullCardSaid : Prop := Claim7.holds Tryd.pinned (.plain (OpenSpec.ofChange viewFullSpec)) viewFullCard

/-- THE SECOND FORM's CARD OF 'wharfingerlaw12.LockAlone'. -/
def lockAloneUptoCard : Claim7 := { stood := { row := lockAloneUptoRow, standIns := [], harness := (true, "aa11aeae9bea043e49cf3255864746477c0076d5f418e5418d26c7955184bf06"), looks := true }, kinds := [], alts := [], laidByText := true, laidKinds := [.data, .pinned], laidTests := true, laidLooks := .later }
def LockAloneUptoCardSaid : Prop := Claim7.holds Tryd.pinned (.plain (OpenSpec.upto lockAloneSpec)) lockAloneUptoCard

/-- THE SECOND FORM's CARD OF 'wharfingerlaw12.LockEnds'. -/
def lockEndsUptoCard : Claim7 := { stood := { row := lockEndsUptoRow, standIns := [], harness := (true, "aa11aeae9bea043e49cf3255864746477c0076d5f418e5418d26c7955184bf06"), looks := true }, kinds := [], alts := [], laidByText := true, laidKinds := [.data, .pinned], laidTests := true, laidLooks := .later }
def LockEndsUptoCardSaid : Prop := Claim7.holds Tryd.pinned (.plain (OpenSpec.upto lockEndsSpec)) lockEndsUptoCard

/-- THE SECOND FORM's CARD OF 'wharfingerlaw12.LockPlays'. -/
def lockPlaysUptoCard : Claim7 := { stood := { row := lockPlaysUptoRow, standIns := [], harness := (true, "aa11aeae9bea043e49cf3255864746477c0076d5f418e5418d26c7955184bf06"), looks := true }, kinds := [], alts := [], laidByText := true, laidKinds := [.data, .handle, .pinned], laidTests := true, laidLooks := .later }
def LockPlaysUptoCardSaid : Prop := Claim7.holds Tryd.pinned (.plain (OpenSpec.upto lockPlaysSpec)) lockPlaysUptoCard

/-- THE SECOND FORM's CARD OF 'wharfingerlaw23.StoryPaths'. -/
def storyPathsUptoCard : Claim7 := { stood := { row := storyPathsUptoRow, standIns := [], harness := (true, "aa11aeae9bea043e49cf3255864746477c0076d5f418e5418d26c7955184bf06"), looks := true }, kinds := [], alts := [], laidByText := true, laidKinds := [.handle], laidTests := true, laidLooks := .later }
def StoryPathsUptoCardSaid : Prop := Claim7.holds Tryd.pinned (.plain (OpenSpec.upto storyPathsSpec)) storyPathsUptoCard

/-- THE SECOND FORM's CARD OF 'wharfingerlaw23.StoryBegins'. -/
def storyBeginsUptoCard : Claim7 := { stood := { row := storyBeginsUptoRow, standIns := [], harness := (true, "aa11aeae9bea043e49cf3255864746477c0076d5f418e5418d26c7955184bf06"), looks := true }, kinds := [], alts := [], laidByText := true, laidKinds := [.handle], laidTests := true, laidLooks := .later }
def StoryBeginsUptoCardSaid : Prop := Claim7.holds Tryd.pinned (.plain (OpenSpec.upto storyBeginsSpec)) storyBeginsUptoCard

/-- THE SECOND FORM's CARD OF 'wharfingerlaw23.StoryPushes'. -/
def storyPushesUptoCard : Claim7 := { stood := { row := storyPushesUptoRow, standIns := [], harness := (true, "aa11aeae9bea043e49cf3255864746477c0076d5f418e5418d26c7955184bf06"), looks := true }, kinds := [], alts := [], laidByText := true, laidKinds := [.handle], laidTests := true, laidLooks := .later }
def StoryPushesUptoCardSaid : Prop := Claim7.holds Tryd.pinned (.plain (OpenSpec.upto storyPushesSpec)) storyPushesUptoCard

/-- THE SECOND FORM's CARD OF 'wharfingerlaw23.StoryReads'. -/
def storyReadsUptoCard : Claim7 := { stood := { row := storyReadsUptoRow, standIns := [], harness := (true, "aa11aeae9bea043e49cf3255864746477c0076d5f418e5418d26c7955184bf06"), looks := true }, kinds := [], alts := [], laidByText := true, laidKinds := [.handle], laidTests := true, laidLooks := .later }
def StoryReadsUptoCardSaid : Prop := Claim7.holds Tryd.pinned (.plain (OpenSpec.upto storyReadsSpec)) storyReadsUptoCard

/-- THE SECOND FORM's CARD OF 'wharfingerlaw10.TreeAll'. -/
def treeAllUptoCard : Claim7 := { stood := { row := treeAllUptoRow, standIns := [], harness := (true, "aa11aeae9bea043e49cf3255864746477c0076d5f418e5418d26c7955184bf06"), looks := true }, kinds := [], alts := [], laidByText := true, laidKinds := [.data, .pinned], laidTests := true, laidLooks := .later }
def TreeAllUptoCardSaid : Prop := Claim7.holds Tryd.pinned (.plain (OpenSpec.upto treeAllSpec)) treeAllUptoCard

/-- THE SECOND FORM's CARD OF 'wharfingerlaw10.TreeOwn'. -/
def treeOwnUptoCard : Claim7 := { stood := { row := treeOwnUptoRow, standIns := [], harness := (true, "aa11aeae9bea043e49cf3255864746477c0076d5f418e5418d26c7955184bf06"), looks := true }, kinds := [], alts := [], laidByText := true, laidKinds := [.data, .pinned], laidTests := true, laidLooks := .later }
def TreeOwnUptoCardSaid : Prop := Claim7.holds Tryd.pinned (.plain (OpenSpec.upto treeOwnSpec)) treeOwnUptoCard

/-- THE SECOND FORM's CARD OF 'wharfingerlaw10.TreeCounts'. -/
def treeCountsUptoCard : Claim7 := { stood := { row := treeCountsUptoRow, standIns := [], harness := (true, "aa11aeae9bea043e49cf3255864746477c0076d5f418e5418d26c7955184bf06"), looks := true }, kinds := [], alts := [], laidByText := true, laidKinds := [.data, .pinned], laidTests := true, laidLooks := .later }
def TreeCountsUptoCardSaid : Prop := Claim7.holds Tryd.pinned (.plain (OpenSpec.upto treeCountsSpec)) treeCountsUptoCard

/-- THE SECOND FORM's CARD OF 'wharfingerlaw10.TreeStays'. -/
def treeStaysUptoCard : Claim7 := { stood := { row := treeStaysUptoRow, standIns := [], harness := (true, "aa11aeae9bea043e49cf3255864746477c0076d5f418e5418d26c7955184bf06"), looks := true }, kinds := [], alts := [], laidByText := true, laidKinds := [.data, .pinned], laidTests := true, laidLooks := .later }
def TreeStaysUptoCardSaid : Prop := Claim7.holds Tryd.pinned (.plain (OpenSpec.upto treeStaysSpec)) treeStaysUptoCard

/-- THE SECOND FORM's CARD OF 'wharfingerlaw11.ViewFull'. -/
def viewFullUptoCard : Claim7 := { stood := { row := viewFullUptoRow, standIns := [], harness := (true, "aa11aeae9bea043e49cf3255864746477c0076d5f418e5418d26c7955184bf06"), looks := true }, kinds := [], alts := [], laidByText := true, laidKinds := [.data, .pinned], laidTests := true, laidLooks := .later }
def ViewFullUptoCardSaid : Prop := Claim7.holds Tryd.pinned (.plain (OpenSpec.upto viewFullSpec)) viewFullUptoCard
end Rows
end Go.Proofs.YtaaeobdihfbjfaaDoor
