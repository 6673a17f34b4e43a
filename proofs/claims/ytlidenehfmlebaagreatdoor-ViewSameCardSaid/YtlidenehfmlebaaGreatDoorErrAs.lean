/-
  errors.As and errors.Is by contracts at the program's error types; code.Number and code.Place.
-/
import Derived.Test.YtlidenehfmlebaaGreatDoorErr
import Derived.WalkKit
import Derived.Outline
import Derived.LaidEql
import Derived.Below
import Derived.Deep.Draws
import Derived.Stop.Asserts
import Derived.RowKitTokens
import Derived.WalkLawsBesides
import Derived.WalkSpells
import Derived.Deep.QuietTactic
import Derived.BigQuiet
import Derived.Deep.RegionWith
set_option linter.unusedVariables false
set_option linter.unusedSimpArgs false
namespace Go.Proofs.YtlidenehfmlebaaGreatDoor
open Go.RowKit Go.Extern.Stop Go.Stop Go.Extern

/-! ### errors.as -/
set_option maxRecDepth 100000 in
set_option maxHeartbeats 1000000 in
/-- err is an Errno, the target one: it is set. -/
theorem as_ee (e : Int) (ta a : Addr) (old : Value) (w : World) (ha : w.cell? a = some (.pointer (some ta))) (ht : w.cell? ta = some old) (hf : w.frozen? ta = false) :
    Calls Tryz.prog 82 #[.iface 52 (.int .i64 e), .iface 146 (.pointer (some ta)), .agg #[.pointer (some ⟨4, 146, none⟩), .pointer (some a), .int .u64 150], .iface 203 (.agg #[.pointer (some ⟨4, 52, none⟩)])] w fun ev w' =>
      ev = .returned (.bool true) ∧ w' = ((w.alloc (.cells #[.pointer (some ⟨4, 146, none⟩), .pointer (some a), .int .u64 150] 171)).alloc (.cells #[.int .i64 e] 52)).setCell ta (.int .i64 e) := by
  have x1 := xTypeOf
  have x2 := xAssign
  have x3 := xElem
  have x4 := xValueOf
  have x5 := xSet
  have m1 := mAssignableTo
  have q1 := typeOfE
  have q2 := assignEE
  have q3 := valueOfE
  have lta := World.block_lt_of_cell? w _ ht
  have la := World.block_lt_of_cell? w _ ha
  have r5 := elemVPE a ta (w.alloc (.cells #[.pointer (some ⟨4, 146, none⟩), .pointer (some a), .int .u64 150] 171)) (by rw [World.cell?_alloc_lt _ _ _ la]; exact ha)
  have r6 := setE ta ⟨w.heap.size + 1, 0, none⟩ e old ((w.alloc (.cells #[.pointer (some ⟨4, 146, none⟩), .pointer (some a), .int .u64 150] 171)).alloc (.cells #[.int .i64 e] 52))
    (by rw [World.cell?_alloc_at _ _ _ _ (by simp)]; rfl)
    (by rw [World.cell?_alloc_lt _ _ ta (by simp; omega), World.cell?_alloc_lt _ _ ta lta]; exact ht)
    (by rw [World.frozen?_alloc_old _ _ ta (by simp; omega), World.frozen?_alloc_old _ _ ta (Nat.ne_of_lt lta)]; exact hf)
  clear ht hf ha
  go_enter Tryz.func82, Tryz.ntmps82
  go_wp2
  refine wp_loop_rounds 1 ?_
  rw [rounds_succ]
  go_wp2
  go_ret
  exact ⟨rfl, rfl⟩

set_option maxRecDepth 100000 in
set_option maxHeartbeats 1000000 in
/-- err is a Fault, the target an Errno: the Fault's own is set. -/
theorem as_fe (b : Nat) (e : Int) (ta a : Addr) (old : Value) (w : World) (he : w.cell? ⟨b, 1, none⟩ = some (.int .i64 e)) (ha : w.cell? a = some (.pointer (some ta))) (ht : w.cell? ta = some old) (hf : w.frozen? ta = false) :
    Calls Tryz.prog 82 #[.iface 186 (.pointer (some ⟨b, 0, none⟩)), .iface 146 (.pointer (some ta)), .agg #[.pointer (some ⟨4, 146, none⟩), .pointer (some a), .int .u64 150], .iface 203 (.agg #[.pointer (some ⟨4, 52, none⟩)])] w fun ev w' =>
      ev = .returned (.bool true) ∧ w' = ((w.alloc (.cells #[.pointer (some ⟨4, 146, none⟩), .pointer (some a), .int .u64 150] 171)).alloc (.cells #[.int .i64 e] 52)).setCell ta (.int .i64 e) := by
  have x1 := xTypeOf
  have x2 := xAssign
  have x3 := xElem
  have x4 := xValueOf
  have x5 := xSet
  have m1 := mAssignableTo
  have q1 := typeOfPF
  have q2 := assignPFE
  have q3 := noAsF
  have q4 := unwrapF
  have q5 := mUnwrapF
  have q6 := typeOfE
  have q7 := assignEE
  have q8 := valueOfE
  have lta := World.block_lt_of_cell? w _ ht
  have la := World.block_lt_of_cell? w _ ha
  have r5 := elemVPE a ta (w.alloc (.cells #[.pointer (some ⟨4, 146, none⟩), .pointer (some a), .int .u64 150] 171)) (by rw [World.cell?_alloc_lt _ _ _ la]; exact ha)
  have r6 := setE ta ⟨w.heap.size + 1, 0, none⟩ e old ((w.alloc (.cells #[.pointer (some ⟨4, 146, none⟩), .pointer (some a), .int .u64 150] 171)).alloc (.cells #[.int .i64 e] 52))
    (by rw [World.cell?_alloc_at _ _ _ _ (by simp)]; rfl)
    (by rw [World.cell?_alloc_lt _ _ ta (by simp; omega), World.cell?_alloc_lt _ _ ta lta]; exact ht)
    (by rw [World.frozen?_alloc_old _ _ ta (by simp; omega), World.frozen?_alloc_old _ _ ta (Nat.ne_of_lt lta)]; exact hf)
  have hb1 : (w.alloc (.cells #[.pointer (some ⟨4, 146, none⟩), .pointer (some a), .int .u64 150] 171)).cell? ⟨b, 1, none⟩ = some (.int .i64 e) := by rw [World.cell?_alloc_lt _ _ _ (World.block_lt_of_cell? w _ he)]; exact he
  clear he
  clear ht hf ha
  go_enter Tryz.func82, Tryz.ntmps82
  go_wp2
  refine wp_loop_rounds 2 ?_
  rw [rounds_succ]
  go_wp2
  rw [rounds_succ]
  go_wp2
  go_ret
  exact ⟨rfl, rfl⟩

end Go.Proofs.YtlidenehfmlebaaGreatDoor
