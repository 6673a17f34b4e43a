/-
  DERIVED. GIVEN WITH THE SEED: THE CARDS: each row of YtkplkienbgoofaaDoorRows.lean that lists a variable, with what it lists TIED to the program's text (the seventh form; the later family's looks); each row that meets fmt, with fmt's text TOLD by the authors' own Lean function (tested against real Go, not proved from fmt's source: count such statements apart). THE CARD IS WHAT COUNTS. Prove the row's statement (the work); the ties are given (YtkplkienbgoofaaDoorTie.lean); close each card by the builder's one call (the guide's Derived/Test/ToyasCard.lean, 'card_holds'). Laid BY PROGRAM, IN A SANDBOX (cutbox-door.mjs). By AI agents, Wed Nov 11 2026. No macro, syntax, notation, axiom, sorry.
-/
import Derived.Test.YtkplkienbgoofaaDoorRows
import GoSem.ClaimSeven
namespace Go.Proofs.YtkplkienbgoofaaDoor
namespace Rows

/-- THE TIED CARD OF 'wharfingerlaw23.StoryReads'. -/
def storyReadsCard : Claim7 := { stood := { row := storyReadsRow, standIns := [], harness := (true, "4650d6d7e022db6e5f88d3746603eaf42603bce6862167dc9614cd758b44d70c"), looks := true }, kinds := [], alts := [], laidByText := true, laidKinds := [.handle], laidTests := true, laidLooks := .later }
def StoryReadsCardSaid : Prop := Claim7.holds Tryd.pinned (.plain (OpenSpec.ofChange storyReadsSpec)) storyReadsCard

/-- THE SECOND FORM's CARD OF 'wharfingerlaw23.StoryReads'. -/
def storyReadsUptoCard : Claim7 := { stood := { row := storyReadsUptoRow, standIns := [], harness := (true, "4650d6d7e022db6e5f88d3746603eaf42603bce6862167dc9614cd758b44d70c"), looks := true }, kinds := [], alts := [], laidByText := true, laidKinds := [.handle], laidTests := true, laidLooks := .later }
def StoryReadsUptoCardSaid : Prop := Claim7.holds Tryd.pinned (.plain (OpenSpec.upto storyReadsSpec)) storyReadsUptoCard
end Rows
end Go.Proofs.YtkplkienbgoofaaDoor
