/-
  DERIVED. GIVEN WITH THE SEED: THE CARDS: each row of YtmamkegcnacbbaaDoorRows.lean that lists a variable, with what it lists TIED to the program's text (the seventh form; the later family's looks); each row that meets fmt, with fmt's text TOLD by the authors' own Lean function (tested against real Go, not proved from fmt's source: count such statements apart). THE CARD IS WHAT COUNTS. Prove the row's statement (the work); the ties are given (YtmamkegcnacbbaaDoorTie.lean); close each card by the builder's one call (the guide's Derived/Test/ToyasCard.lean, 'card_holds'). Laid BY PROGRAM, IN A SANDBOX (cutbox-door.mjs). By AI agents, Wed Nov 11 2026. No macro, syntax, notation, axiom, sorry.
-/
import Derived.Test.YtmamkegcnacbbaaDoorRows
import GoSem.ClaimSeven
namespace Go.Proofs.YtmamkegcnacbbaaDoor
namespace Rows

/-- THE TIED CARD OF 'wharfingerlaw23.StoryPaths'. -/
def storyPathsCard : Claim7 := { stood := { row := storyPathsRow, standIns := [], harness := (true, "26148752b7611d986a7119e9f973bb7211b39865a456365b96e4fdbf6d864f35"), looks := true }, kinds := [], alts := [], laidByText := true, laidKinds := [.handle], laidTests := true, laidLooks := .later }
def StoryPathsCardSaid : Prop := Claim7.holds Tryd.pinned (.plain (OpenSpec.ofChange storyPathsSpec)) storyPathsCard

/-- THE TIED CARD OF 'wharfingerlaw23.StoryBegins'. -/
def storyBeginsCard : Claim7 := { stood := { row := storyBeginsRow, standIns := [], harness := (true, "26148752b7611d986a7119e9f973bb7211b39865a456365b96e4fdbf6d864f35"), looks := true }, kinds := [], alts := [], laidByText := true, laidKinds := [.handle], laidTests := true, laidLooks := .later }
def StoryBeginsCardSaid : Prop := Claim7.holds Tryd.pinned (.plain (OpenSpec.ofChange storyBeginsSpec)) storyBeginsCard

/-- THE TIED CARD OF 'wharfingerlaw23.StoryPushes'. -/
def storyPushesCard : Claim7 := { stood := { row := storyPushesRow, standIns := [], harness := (true, "26148752b7611d986a7119e9f973bb7211b39865a456365b96e4fdbf6d864f35"), looks := true }, kinds := [], alts := [], laidByText := true, laidKinds := [.handle], laidTests := true, laidLooks := .later }
def StoryPushesCardSaid : Prop := Claim7.holds Tryd.pinned (.plain (OpenSpec.ofChange storyPushesSpec)) storyPushesCard

/-- THE TIED CARD OF 'wharfingerlaw23.StoryReads'. -/
def storyReadsCard : Claim7 := { stood := { row := storyReadsRow, standIns := [], harness := (true, "26148752b7611d986a7119e9f973bb7211b39865a456365b96e4fdbf6d864f35"), looks := true }, kinds := [], alts := [], laidByText := true, laidKinds := [.handle], laidTests := true, laidLooks := .later }
def StoryReadsCardSaid : Prop := Claim7.holds Tryd.pinned (.plain (OpenSpec.ofChange storyReadsSpec)) storyReadsCard

/-- THE TIED CARD OF 'wharfingerlaw10.TreeAll'. -/
def treeAllCard : Claim7 := { stood := { row := treeAllRow, standIns := [], harness := (true, "26148752b7611d986a7119e9f973bb7211b39865a456365b96e4fdbf6d864f35"), looks := true }, kinds := [], alts := [], laidByText := true, laidKinds := [.data, .pinned], laidTests := true, laidLooks := .later }
def TreeAllCardSaid : Prop := Claim7.holds Tryd.pinned (.plain (OpenSpec.ofChange treeAllSpec)) treeAllCard

/-- THE TIED CARD OF 'wharfingerlaw10.TreeOwn'. -/
def treeOwnCard : Claim7 := { stood := { row := treeOwnRow, standIns := [], harness := (true, "26148752b7611d986a7119e9f973bb7211b39865a456365b96e4fdbf6d864f35"), looks := true }, kinds := [], alts := [], laidByText := true, laidKinds := [.data, .pinned], laidTests := true, laidLooks := .later }
def TreeOwnCardSaid : Prop := Claim7.holds Tryd.pinned (.plain (OpenSpec.ofChange treeOwnSpec)) treeOwnCard

/-- THE TIED CARD OF 'wharfingerlaw10.TreeCounts'. -/
def treeCountsCard : Claim7 := { stood := { row := treeCountsRow, standIns := [], harness := (true, "26148752b7611d986a7119e9f973bb7211b39865a456365b96e4fdbf6d864f35"), looks := true }, kinds := [], alts := [], laidByText := true, laidKinds := [.data, .pinned], laidTests := true, laidLooks := .later }
def TreeCountsCardSaid : Prop := Claim7.holds Tryd.pinned (.plain (OpenSpec.ofChange treeCountsSpec)) treeCountsCard

/-- THE TIED CARD OF 'wharfingerlaw10.TreeStays'. -/
def treeStaysCard : Claim7 := { stood := { row := treeStaysRow, standIns := [], harness := (true, "26148752b7611d986a7119e9f973bb7211b39865a456365b96e4fdbf6d864f35"), looks := true }, kinds := [], alts := [], laidByText := true, laidKinds := [.data, .pinned], laidTests := true, laidLooks := .later }
def TreeStaysCardSaid : Prop := Claim7.holds Tryd.pinned (.plain (OpenSpec.ofChange treeStaysSpec)) treeStaysCard

/-- THE TIED CARD OF 'wharfingerlaw10.TreeEmpty'. -/
def treeEmptyCard : Claim7 := { stood := { row := treeEmptyRow, standIns := [], harness := (true, "26148752b7611d986a7119e9f973bb7211b39865a456365b96e4fdbf6d864f35"), looks := true }, kinds := [], alts := [], laidByText := true, laidKinds := [.data, .handle, .pinned], laidTests := true, laidLooks := .later }
def TreeEmptyCardSaid : Prop := Claim7.holds Tryd.pinned (.plain (OpenSpec.ofChange treeEmptySpec)) treeEmptyCard

/-- THE TIED CARD OF 'wharfingerlaw11.ViewFull'. -/
def viewFullCard : Claim7 := { stood := { row := viewFullRow, standIns := [], harness := (true, "26148752b7611d986a7119e9f973bb7211b39865a456365b96e4fdbf6d864f35"), looks := true }, kinds := [], alts := [], laidByText := true, laidKinds := [.data, .pinned], laidTests := true, laidLooks := .later }
def ViewFullCardSaid : Prop := Claim7.holds Tryd.pinned (.plain (OpenSpec.ofChange viewFullSpec)) viewFullCard

/-- THE SECOND FORM's CARD OF 'wharfingerlaw23.StoryPaths'. -/
def storyPathsUptoCard : Claim7 := { stood := { row := storyPathsUptoRow, standIns := [], harness := (true, "26148752b7611d986a7119e9f973bb7211b39865a456365b96e4fdbf6d864f35"), looks := true }, kinds := [], alts := [], laidByText := true, laidKinds := [.handle], laidTests := true, laidLooks := .later }
def StoryPathsUptoCardSaid : Prop := Claim7.holds Tryd.pinned (.plain (OpenSpec.upto storyPathsSpec)) storyPathsUptoCard

/-- THE SECOND FORM's CARD OF 'wharfingerlaw23.StoryBegins'. -/
def storyBeginsUptoCard : Claim7 := { stood := { row := storyBeginsUptoRow, standIns := [], harness := (true, "26148752b7611d986a7119e9f973bb7211b39865a456365b96e4fdbf6d864f35"), looks := true }, kinds := [], alts := [], laidByText := true, laidKinds := [.handle], laidTests := true, laidLooks := .later }
def StoryBeginsUptoCardSaid : Prop := Claim7.holds Tryd.pinned (.plain (OpenSpec.upto storyBeginsSpec)) storyBeginsUptoCard

/-- THE SECOND FORM's CARD OF 'wharfingerlaw23.StoryPushes'. -/
def storyPushesUptoCard : Claim7 := { stood := { row := storyPushesUptoRow, standIns := [], harness := (true, "26148752b7611d986a7119e9f973bb7211b39865a456365b96e4fdbf6d864f35"), looks := true }, kinds := [], alts := [], laidByText := true, laidKinds := [.handle], laidTests := true, laidLooks := .later }
def StoryPushesUptoCardSaid : Prop := Claim7.holds Tryd.pinned (.plain (OpenSpec.upto storyPushesSpec)) storyPushesUptoCard

/-- THE SECOND FORM's CARD OF 'wharfingerlaw23.StoryReads'. -/
def storyReadsUptoCard : Claim7 := { stood := { row := storyReadsUptoRow, standIns := [], harness := (true, "26148752b7611d986a7119e9f973bb7211b39865a456365b96e4fdbf6d864f35"), looks := true }, kinds := [], alts := [], laidByText := true, laidKinds := [.handle], laidTests := true, laidLooks := .later }
def StoryReadsUptoCardSaid : Prop := Claim7.holds Tryd.pinned (.plain (OpenSpec.upto storyReadsSpec)) storyReadsUptoCard

/-- THE SECOND FORM's CARD OF 'wharfingerlaw10.TreeAll'. -/
def treeAllUptoCard : Claim7 := { stood := { row := treeAllUptoRow, standIns := [], harness := (true, "26148752b7611d986a7119e9f973bb7211b39865a456365b96e4fdbf6d864f35"), looks := true }, kinds := [], alts := [], laidByText := true, laidKinds := [.data, .pinned], laidTests := true, laidLooks := .later }
def TreeAllUptoCardSaid : Prop := Claim7.holds Tryd.pinned (.plain (OpenSpec.upto treeAllSpec)) treeAllUptoCard

/-- THE SECOND FORM's CARD OF 'wharfingerlaw10.TreeOwn'. -/
def treeOwnUptoCard : Claim7 := { stood := { row := treeOwnUptoRow, standIns := [], harness := (true, "26148752b7611d986a7119e9f973bb7211b39865a456365b96e4fdbf6d864f35"), looks := true }, kinds := [], alts := [], laidByText := true, laidKinds := [.data, .pinned], laidTests := true, laidLooks := .later }
def TreeOwnUptoCardSaid : Prop := Claim7.holds Tryd.pinned (.plain (OpenSpec.upto treeOwnSpec)) treeOwnUptoCard

/-- THE SECOND FORM's CARD OF 'wharfingerlaw10.TreeCounts'. -/
def treeCountsUptoCard : Claim7 := { stood := { row := treeCountsUptoRow, standIns := [], harness := (true, "26148752b7611d986a7119e9f973bb7211b39865a456365b96e4fdbf6d864f35"), looks := true }, kinds := [], alts := [], laidByText := true, laidKinds := [.data, .pinned], laidTests := true, laidLooks := .later }
def TreeCountsUptoCardSaid : Prop := Claim7.holds Tryd.pinned (.plain (OpenSpec.upto treeCountsSpec)) treeCountsUptoCard

/-- THE SECOND FORM's CARD OF 'wharfingerlaw10.TreeStays'. -/
def treeStaysUptoCard : Claim7 := { stood := { row := treeStaysUptoRow, standIns := [], harness := (true, "26148752b7611d986a7119e9f973bb7211b39865a456365b96e4fdbf6d864f35"), looks := true }, kinds := [], alts := [], laidByText := true, laidKinds := [.data, .pinned], laidTests := true, laidLooks := .later }
def TreeStaysUptoCardSaid : Prop := Claim7.holds Tryd.pinned (.plain (OpenSpec.upto treeStaysSpec)) treeStaysUptoCard

/-- THE SECOND FORM's CARD OF 'wharfingerlaw10.TreeEmpty'. -/
def treeEmptyUptoCard : Claim7 := { stood := { row := treeEmptyUptoRow, standIns := [], harness := (true, "26148752b7611d986a7119e9f973bb7211b39865a456365b96e4fdbf6d864f35"), looks := true }, kinds := [], alts := [], laidByText := true, laidKinds := [.data, .handle, .pinned], laidTests := true, laidLooks := .later }
def TreeEmptyUptoCardSaid : Prop := Claim7.holds Tryd.pinned (.plain (OpenSpec.upto treeEmptySpec)) treeEmptyUptoCard

/-- THE SECOND FORM's CARD OF 'wharfingerlaw11.ViewFull'. -/
def viewFullUptoCard : Claim7 := { stood := { row := viewFullUptoRow, standIns := [], harness := (true, "26148752b7611d986a7119e9f973bb7211b39865a456365b96e4fdbf6d864f35"), looks := true }, kinds := [], alts := [], laidByText := true, laidKinds := [.data, .pinned], laidTests := true, laidLooks := .later }
def ViewFullUptoCardSaid : Prop := Claim7.holds Tryd.pinned (.plain (OpenSpec.upto viewFullSpec)) viewFullUptoCard
end Rows
end Go.Proofs.YtmamkegcnacbbaaDoor
