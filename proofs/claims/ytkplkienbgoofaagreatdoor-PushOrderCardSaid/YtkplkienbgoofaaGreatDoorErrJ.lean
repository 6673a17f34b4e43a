/-
  errors.Join of two errors.
-/
import Derived.Test.YtkplkienbgoofaaGreatDoorErrN
import Derived.WalkKit
import Derived.Outline
import Derived.Below
import Derived.WalkLawsBesides
import Derived.WalkSpells
import Derived.Lib.Hide
import Derived.OwnWalk
import Derived.Laws.OwnMore
import Derived.Laws.MakeOwn
set_option linter.unusedVariables false
set_option linter.unusedSimpArgs false
namespace Go.Proofs.YtkplkienbgoofaaGreatDoor
open Go.RowKit
theorem infoErr : (Tryz.prog.info? 28).map (fun i => (i.zero, i.size, i.bytes)) = some (some .nilIface, 1, 16) := by kernel_rfl
theorem below_five (w : World) (o1 o2 o3 o4 : Obj) : Below w.heap.size w ((((w.alloc o1).alloc o2).alloc o3).alloc o4) := below_from (below_two w o1 o2) (below_two _ o3 o4)
theorem makeErr2 (w : World) : (Instr.makeSlice 240 (.int .i64 0) (.int .i64 2)).run Tryz.prog w = .ok (.slice (some ⟨w.heap.size, 0, none⟩) 0 2) (w.alloc (.cells #[.nilIface, .nilIface] 28)) := by kernel_rfl
set_option maxRecDepth 100000 in
set_option maxHeartbeats 2000000 in
/-- errors.Join of two that are not nil. -/
theorem join_two (g b1 : Nat) (p k : Int) (t2 : TypeId) (x2 : Value) (w : World) (h1 : w.cell? ⟨g, 0, none⟩ = some (.iface 174 (.pointer (some ⟨b1, 0, none⟩)))) (h2 : w.cell? ⟨g, 1, none⟩ = some (.iface t2 x2)) (hf : FaultAt w b1 p k) :
    Calls Tryz.prog 105 #[.slice (some ⟨g, 0, none⟩) 2 2] w fun e w' => ∃ v, e = .returned v ∧ ErrV w' v (.joined p k) ∧ Below w.heap.size w w' := by
  have HF := Lib.hid hf
  have lg := lt_of_cell h1
  simp at lg
  clear hf
  have mk := makeErr2
  have h2' : ∀ o1 o2 o3 : Obj, (((w.alloc o1).alloc o2).alloc o3).cell? ⟨g, 1, none⟩ = some (.iface t2 x2) := fun o1 o2 o3 => cell_below (below_from (below_two w o1 o2) (below_one _ o3)) h2
  go_enter Tryz.func105, Tryz.ntmps105
  go_wp2
  refine wp_loop_rounds 3 ?_
  rw [rounds_succ]
  go_wp2
  rw [rounds_succ]
  go_wp2
  rw [rounds_succ]
  go_wp2
  refine wp_loop_rounds 3 ?_
  rw [rounds_succ]
  go_wp2
  rw [rounds_succ]
  go_wp2
  rw [rounds_succ]
  go_wp2
  go_ret
  refine ⟨_, rfl, ⟨w.heap.size + 1, w.heap.size, 1, 2, b1, rfl, cell_below (below_two ((w.alloc _).alloc _) _ _) (by simp), cell_below (below_from (below_two (w.alloc _) _ _) (below_one _ _)) (by simp), HF.out.below (below_five w _ _ _ _)⟩, below_five w _ _ _ _⟩
end Go.Proofs.YtkplkienbgoofaaGreatDoor
