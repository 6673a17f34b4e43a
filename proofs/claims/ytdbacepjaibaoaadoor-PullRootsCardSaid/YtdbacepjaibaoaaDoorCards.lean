/-
  DERIVED. GIVEN WITH THE SEED: THE CARDS: each row of YtdbacepjaibaoaaDoorRows.lean that lists a variable, with what it lists TIED to the program's text (the seventh form; the later family's looks); each row that meets fmt, with fmt's text TOLD by the authors' own Lean function (tested against real Go, not proved from fmt's source: count such statements apart). THE CARD IS WHAT COUNTS. Prove the row's statement (the work); the ties are given (YtdbacepjaibaoaaDoorTie.lean); close each card by the builder's one call (the guide's Derived/Test/ToyasCard.lean, 'card_holds'). Laid BY PROGRAM, IN A SANDBOX (cutbox-door.mjs). By AI agents, Wed Nov 11 2026. No macro, syntax, notation, axiom, sorry.
-/
import Derived.Test.YtdbacepjaibaoaaDoorRows
import GoSem.ClaimSeven
namespace Go.Proofs.YtdbacepjaibaoaaDoor
namespace Rows

/-- THE TIED CARD OF 'wharfingerlaw23.StoryPaths'. -/
def storyPathsCard : Claim7 := { stood := { row := storyPathsRow, standIns := [], harness := (true, "489bc31d6d0ceaffa9504ce81cf11c14598ded4cdc61f8d355ab95dfe58181f6"), looks := true }, kinds := [], alts := [], laidByText := true, laidKinds := [.handle], laidTests := true, laidLooks := .later }
def StoryPathsCardSaid : Prop := Claim7.holds Tryd.pinned (.plain (OpenSpec.ofChange storyPathsSpec)) storyPathsCard

/-- THE TIED CARD OF 'wharfingerlaw23.StoryBegins'. -/
def storyBeginsCard : Claim7 := { stood := { row := storyBeginsRow, standIns := [], harness := (true, "489bc31d6d0ceaffa9504ce81cf11c14598ded4cdc61f8d355ab95dfe58181f6"), looks := true }, kinds := [], alts := [], laidByText := true, laidKinds := [.handle], laidTests := true, laidLooks := .later }
def StoryBeginsCardSaid : Prop := Claim7.holds Tryd.pinned (.plain (OpenSpec.ofChange storyBeginsSpec)) storyBeginsCard

/-- THE TIED CARD OF 'wharfingerlaw23.StoryPushes'. -/
def storyPushesCard : Claim7 := { stood := { row := storyPushesRow, standIns := [], harness := (true, "489bc31d6d0ceaffa9504ce81cf11c14598ded4cdc61f8d355ab95dfe58181f6"), looks := true }, kinds := [], alts := [], laidByText := true, laidKinds := [.handle], laidTests := true, laidLooks := .later }
def StoryPushesCardSaid : Prop := Claim7.holds Tryd.pinned (.plain (OpenSpec.ofChange storyPushesSpec)) storyPushesCard

/-- THE TIED CARD OF 'wharfingerlaw23.StoryReads'. -/
def storyReadsCard : Claim7 := { stood := { row := storyReadsRow, standIns := [], harness := (true, "489bc31d6d0ceaffa9504ce81cf11c14598ded4cdc61f8d355ab95dfe58181f6"), looks := true }, kinds := [], alts := [], laidByText := true, laidKinds := [.handle], laidTests := true, laidLooks := .later }
def StoryReadsCardSaid : Prop := Claim7.holds Tryd.pinned (.plain (OpenSpec.ofChange storyReadsSpec)) storyReadsCard

/-- THE TIED CARD OF 'wharfingerlaw18.PullRoots'. -/
def pullRootsCard : Claim7 := { stood := { row := pullRootsRow, standIns := [], harness := (true, "489bc31d6d0ceaffa9504ce81cf11c14598ded4cdc61f8d355ab95dfe58181f6"), looks := true }, kinds := [], alts := [], laidByText := true, laidKinds := [.data, .pinned], laidTests := true, laidLooks := .later }
def PullRootsCardSaid : Prop := Claim7.holds Tryd.pinned (.plain (OpenSpec.ofChange pullRootsSpec)) pullRootsCard

/-- THE SECOND FORM's CARD OF 'wharfingerlaw23.StoryPaths'. -/
def storyPathsUptoCard : Claim7 := { stood := { row := storyPathsUptoRow, standIns := [], harness := (true, "489bc31d6d0ceaffa9504ce81cf11c14598ded4cdc61f8d355ab95dfe58181f6"), looks := true }, kinds := [], alts := [], laidByText := true, laidKinds := [.handle], laidTests := true, laidLooks := .later }
def StoryPathsUptoCardSaid : Prop := Claim7.holds Tryd.pinned (.plain (OpenSpec.upto storyPathsSpec)) storyPathsUptoCard

/-- THE SECOND FORM's CARD OF 'wharfingerlaw23.StoryBegins'. -/
def storyBeginsUptoCard : Claim7 := { stood := { row := storyBeginsUptoRow, standIns := [], harness := (true, "489bc31d6d0ceaffa9504ce81cf11c14598ded4cdc61f8d355ab95dfe58181f6"), looks := true }, kinds := [], alts := [], laidByText := true, laidKinds := [.handle], laidTests := true, laidLooks := .later }
def StoryBeginsUptoCardSaid : Prop := Claim7.holds Tryd.pinned (.plain (OpenSpec.upto storyBeginsSpec)) storyBeginsUptoCard

/-- THE SECOND FORM's CARD OF 'wharfingerlaw23.StoryPushes'. -/
def storyPushesUptoCard : Claim7 := { stood := { row := storyPushesUptoRow, standIns := [], harness := (true, "489bc31d6d0ceaffa9504ce81cf11c14598ded4cdc61f8d355ab95dfe58181f6"), looks := true }, kinds := [], alts := [], laidByText := true, laidKinds := [.handle], laidTests := true, laidLooks := .later }
def StoryPushesUptoCardSaid : Prop := Claim7.holds Tryd.pinned (.plain (OpenSpec.upto storyPushesSpec)) storyPushesUptoCard

/-- THE SECOND FORM's CARD OF 'wharfingerlaw23.StoryReads'. -/
def storyReadsUptoCard : Claim7 := { stood := { row := storyReadsUptoRow, standIns := [], harness := (true, "489bc31d6d0ceaffa9504ce81cf11c14598ded4cdc61f8d355ab95dfe58181f6"), looks := true }, kinds := [], alts := [], laidByText := true, laidKinds := [.handle], laidTests := true, laidLooks := .later }
def StoryReadsUptoCardSaid : Prop := Claim7.holds Tryd.pinned (.plain (OpenSpec.upto storyReadsSpec)) storyReadsUptoCard

/-- THE SECOND FORM's CARD OF 'wharfingerlaw18.PullRoots'. -/
def pullRootsUptoCard : Claim7 := { stood := { row := pullRootsUptoRow, standIns := [], harness := (true, "489bc31d6d0ceaffa9504ce81cf11c14598ded4cdc61f8d355ab95dfe58181f6"), looks := true }, kinds := [], alts := [], laidByText := true, laidKinds := [.data, .pinned], laidTests := true, laidLooks := .later }
def PullRootsUptoCardSaid : Prop := Claim7.holds Tryd.pinned (.plain (OpenSpec.upto pullRootsSpec)) pullRootsUptoCard
end Rows
end Go.Proofs.YtdbacepjaibaoaaDoor
