/-
  The frame of rows that list errors.errorType alone.
-/
import Derived.Test.YtkplkienbgoofaaDoorRowKit
set_option linter.unusedVariables false
set_option linter.unusedSimpArgs false
namespace Go.Proofs.YtkplkienbgoofaaDoor
open Go.ChangeShapes Go.WideShapes Go.ChangeAt Go.RowKit
def laid1 : List (String × DataW Unit) := [("errors.errorType", Rows.laid_errors_errorType)]
theorem et_of_laid1 {W : World} (h : laidMetH Tryd.prog laid1 W) : W.cell? ⟨0, 0, none⟩ = some (.iface 83 (.agg #[.pointer (some ⟨1, 32, none⟩)])) := by
  have h' : laidMet Tryd.prog [] W ∧ handlesMet Tryd.prog [("errors.errorType", Rows.laid_errors_errorType)] W := h
  obtain ⟨name, u, ty, e1, e2, e3, e4, e5⟩ := h'.2 _ (List.mem_singleton.2 rfl)
  have en : name = [101, 114, 114, 111, 114] := (Option.some.inj e1).symm
  subst en
  obtain rfl := Option.some.inj (et_rt.symm.trans e2)
  have hm : ty ∈ (List.range 147).filter fun t => Tryd.prog.rowNamed t [101, 114, 114, 111, 114] := List.mem_filter.2 ⟨List.mem_range.2 (by rw [← et_size]; exact e3), e4⟩
  rw [et_row] at hm
  obtain rfl := List.mem_singleton.1 hm
  have hh : typeHandle Tryd.prog 32 = .pointer (some ⟨1, 32, none⟩) := by kernel_rfl
  rw [hh] at e5
  simpa using World.var?_cell et_glob e5 0
theorem witE_os (os : Os) : (wit0 os).os = os := rfl
theorem laidMet_nil (W : World) : laidMet Tryd.prog [] W := ⟨[], rfl, List.nodup_nil, fun _ _ h => by cases h⟩
theorem witE_met (os : Os) (args : Array Value) : laidMetH Tryd.prog laid1 ((wit0 os).forCall (fun _ _ => 0) ⟨#[], args, []⟩).memory := by
  exact laidMetH_of_parts (laidMet_nil _) (by kernel_rfl)
theorem witE_shaped (os : Os) (args : Array Value) : ((wit0 os).forCall (fun _ _ => 0) ⟨#[], args, []⟩).Shaped Tryd.prog := World.shaped_of_ZipB (by kernel_rfl) (by kernel_rfl)
end Go.Proofs.YtkplkienbgoofaaDoor
