/-
  The frame of rows that list utf8's tables alone.
-/
import Derived.Test.YtdbacepjaibaoaaGreatDoorRowKit
set_option linter.unusedVariables false
set_option linter.unusedSimpArgs false
namespace Go.Proofs.YtdbacepjaibaoaaGreatDoor
open Go.ChangeShapes Go.WideShapes Go.ChangeAt Go.RowKit
noncomputable def witM (os : Os) : World := (World.holding Tryz.prog os ⟨#[], #[], []⟩).layVars Tryz.prog laid2
theorem witM_os (os : Os) : (witM os).os = os := World.layVars_os _ _ _
theorem witM_fits (os : Os) : (World.holding Tryz.prog os ⟨#[], #[], []⟩).layFits Tryz.prog laid2 [] = true := by kernel_rfl
theorem witM_ifaces (os : Os) : (World.holding Tryz.prog os ⟨#[], #[], []⟩).layIfaces Tryz.prog laid2 (witM os) = true := by kernel_rfl
theorem witM_met (os : Os) (args : Array Value) : laidMetH Tryz.prog laid2 ((witM os).forCall (fun _ _ => 0) ⟨#[], args, []⟩).memory := by
  rw [MakeChecks.laidMetH_plain _ _ _ (by kernel_rfl)]
  have h2 : laidMet Tryz.prog laid2 (witM os) := laidMet_layVars (w0 := World.holding Tryz.prog os ⟨#[], #[], []⟩) ["unicode/utf8.acceptRanges", "unicode/utf8.first"] [] (by rfl) (witM_fits os) (witM_ifaces os) LaidIn.none
  exact h2.of_heap (by simp [World.memory, World.forCall, Input.heap])
theorem witM_shaped (os : Os) (args : Array Value) : ((witM os).forCall (fun _ _ => 0) ⟨#[], args, []⟩).Shaped Tryz.prog := World.shaped_of_ZipB (by kernel_rfl) (by kernel_rfl)
end Go.Proofs.YtdbacepjaibaoaaGreatDoor
