/-
  Arguments in memory: arrays of two.
-/
import Derived.Test.YtddnfooachibiaaGreatDoorArgs
import Derived.OpenShut
set_option linter.unusedVariables false
set_option linter.unusedSimpArgs false
namespace Go.Proofs.YtddnfooachibiaaGreatDoor
open Go.RowKit Go.Deep Go.WideShapes
open Go.Proofs.YtddnfooachibiaaGreatDoorW.PrintWords (Kd ReadsRow)
theorem opens_arr2 {α : Type} {P : Program} {t e : TypeId} {d : Kd α} {good : α → Prop} (ht : P.underlying t = some (.array 2 e)) (hc : P.cellsOf e = d.sz) (hct : P.cellsOf t = d.sz + d.sz) (he : Opens P e d good) : Opens P t (Kd.pair d d) (fun p => good p.1 ∧ good p.2) := by
  intro H enc w base spare held fuel cs x h
  obtain ⟨xs, m, _, _, hl, hx, hf⟩ := DataW.trod_array ht h
  have h0 := hf 0 (by omega)
  have h1 := hf 1 (by omega)
  rw [List.getElem?_eq_getElem (by omega)] at h0 h1
  obtain ⟨y0, k0, g0⟩ := he h0
  obtain ⟨y1, k1, g1⟩ := he h1
  rw [hc] at k0 k1
  rw [hct] at hl
  refine ⟨(y0, y1), ⟨_, _, ?_, k0, k1⟩, g0, g1⟩
  rw [Nat.zero_mul, List.drop_zero, Nat.one_mul]
  rw [List.take_of_length_le (l := cs.drop d.sz) (by rw [List.length_drop]; omega), List.take_append_drop]
end Go.Proofs.YtddnfooachibiaaGreatDoor
