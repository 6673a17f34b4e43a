/-
  errors.As and errors.Is by contracts at the program's error types; code.Number and code.Place.
-/
import Derived.Test.YtlidenehfmlebaaGreatDoorErrAs
import Derived.Lib.Hide
import Derived.WalkKit
import Derived.Outline
import Derived.LaidEql
import Derived.Below
import Derived.Deep.Draws
import Derived.Stop.Asserts
import Derived.RowKitTokens
import Derived.WalkLawsBesides
import Derived.WalkSpells
import Derived.Deep.QuietTactic
import Derived.BigQuiet
import Derived.Deep.RegionWith
set_option linter.unusedVariables false
set_option linter.unusedSimpArgs false
namespace Go.Proofs.YtlidenehfmlebaaGreatDoor
open Go.RowKit Go.Extern.Stop Go.Stop Go.Extern

set_option maxRecDepth 100000 in
set_option maxHeartbeats 1000000 in
/-- errors.As at this target: what errors.as comes to. -/
theorem As_E (T : TypeId) (x : Value) (ta : Addr) (old : Value) (r : Bool) (R : World → World → Prop) (w : World) (hg : Env w) (ht : w.cell? ta = some old)
    (has : ∀ (a : Addr) (W : World), Below w.heap.size w W → W.cell? a = some (.pointer (some ta)) → Calls Tryz.prog 82 #[.iface T x, .iface 146 (.pointer (some ta)), .agg #[.pointer (some ⟨4, 146, none⟩), .pointer (some a), .int .u64 150], .iface 203 (.agg #[.pointer (some ⟨4, 52, none⟩)])] W fun ev w' => ev = .returned (.bool r) ∧ R W w') :
    Calls Tryz.prog 57 #[.iface T x, .iface 146 (.pointer (some ta))] w fun ev w' => ev = .returned (.bool r) ∧ ∃ W, Below w.heap.size w W ∧ R W w' := by
  have HAS := Lib.hid (has ⟨w.heap.size, 0, none⟩ ((w.alloc (.cells #[.pointer (some ta)] 146)).alloc (.cells #[.pointer (some ⟨4, 146, none⟩), .pointer (some ⟨w.heap.size, 0, none⟩), .int .u64 150] 171)) (((Below.refl _ _).alloc (Nat.le_refl _) _).alloc (by simp) _) (by rw [World.cell?_alloc_lt _ _ _ (by simp)]; simp))
  clear has
  have x1 := xValueOf
  have x2 := xType
  have x3 := xIsNil
  have x4 := xKind
  have x5 := xElemT
  have x6 := xImpl
  have m1 := mKind
  have m2 := mElem
  have m3 := mImplements
  have q0 := valueOfPE
  have q1 := typePE
  have q2 := kindPE
  have q3 := elemPE
  have q4 := kindE
  have q5 := implementsE
  have n8 := isNilPE ⟨w.heap.size, 0, none⟩ ta ((w.alloc (.cells #[.pointer (some ta)] 146)).alloc (.cells #[.pointer (some ⟨4, 146, none⟩), .pointer (some ⟨w.heap.size, 0, none⟩), .int .u64 150] 171)) (by rw [World.cell?_alloc_lt _ _ _ (by simp)]; simp)
  have hg2 : ((w.alloc (.cells #[.pointer (some ta)] 146)).alloc (.cells #[.pointer (some ⟨4, 146, none⟩), .pointer (some ⟨w.heap.size, 0, none⟩), .int .u64 150] 171)).cell? ⟨0, 0, none⟩ = some (.iface 203 (.agg #[.pointer (some ⟨4, 62, none⟩)])) := by
    have hl := World.block_lt_of_cell? w _ hg.et
    rw [World.cell?_alloc_lt _ _ _ (by simp <;> (simp at hl; omega)), World.cell?_alloc_lt _ _ _ hl]; exact hg.et
  clear hg ht
  go_enter Tryz.func57, Tryz.ntmps57
  go_wp2_with (go_at_call 82; refine HAS.out.mono ?_; rintro ev w' ⟨rfl, hR⟩)
  go_ret
  exact ⟨rfl, _, ((Below.refl _ _).alloc (Nat.le_refl _) _).alloc (by simp) _, hR⟩

end Go.Proofs.YtlidenehfmlebaaGreatDoor
