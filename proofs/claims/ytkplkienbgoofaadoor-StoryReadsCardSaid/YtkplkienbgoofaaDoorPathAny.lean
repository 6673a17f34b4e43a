/-
  path.Check at every text.
-/
import Derived.Test.YtkplkienbgoofaaDoorPathCheck
import Derived.Test.YtkplkienbgoofaaDoorPathPlain
import Derived.Test.YtkplkienbgoofaaDoorShelf
import Derived.WalkKit
import Derived.Outline
import Derived.LaidEql
import Derived.Below
import Derived.WalkLawsBesides
import Derived.WalkSpells
import Derived.Deep.QuietTactic
import Derived.BigQuiet
import Derived.Deep.LoopGhost
import Derived.Lib.Hide
set_option linter.unusedVariables false
set_option linter.unusedSimpArgs false
namespace Go.Proofs.YtkplkienbgoofaaDoor
open Go.RowKit

theorem ab_bad : checkB ⟨#[97, 47, 47, 98]⟩ = some 2 := by rw [checkB_slash _ (by decide) (by decide)]; decide
theorem abc_ok : checkB ⟨#[97, 47, 98, 46, 99]⟩ = none := by rw [checkB_slash _ (by decide) (by decide)]; decide
theorem place_fault (b : Nat) (p k : Int) (w : World) (hf : FaultAt w b p k) (hg : Env w) : Calls Tryd.prog 9 #[.iface 49 (.pointer (some ⟨b, 0, none⟩))] w fun e w' => e = .returned (.int .i64 p) ∧ Below w.heap.size w w' :=
  place _ (.fault p k) w ⟨b, rfl, hf⟩ hg
end Go.Proofs.YtkplkienbgoofaaDoor
