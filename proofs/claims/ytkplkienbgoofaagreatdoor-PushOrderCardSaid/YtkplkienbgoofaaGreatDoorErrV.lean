/-
  errors.As and errors.Is by contracts at the program's error types; code.Number and code.Place.
-/
import Derived.Test.YtkplkienbgoofaaGreatDoorErrAs2
import Derived.Lib.Hide
import Derived.WalkKit
import Derived.Outline
import Derived.LaidEql
import Derived.Below
import Derived.Deep.Draws
import Derived.Stop.Asserts
import Derived.RowKitTokens
import Derived.WalkLawsBesides
import Derived.WalkSpells
import Derived.Deep.QuietTactic
import Derived.BigQuiet
import Derived.Deep.RegionWith
set_option linter.unusedVariables false
set_option linter.unusedSimpArgs false
namespace Go.Proofs.YtkplkienbgoofaaGreatDoor
open Go.RowKit Go.Extern.Stop Go.Stop Go.Extern

/-! ### the program's errors -/
/-- nil, an Errno, a Fault, or what errors.Join makes of a Fault and something more. -/
inductive GErr where
  | nil
  | errno (e : Int)
  | fault (place e : Int)
  | joined (place e : Int)
def GErr.num : GErr → Int
  | .nil => 0
  | .errno e => e
  | .fault _ e => e
  | .joined _ e => e
def GErr.place : GErr → Int
  | .nil => -1
  | .errno _ => -1
  | .fault p _ => p
  | .joined p _ => p
/-- A Fault's two cells. -/
def FaultAt (w : World) (b : Nat) (p e : Int) : Prop := w.cell? ⟨b, 0, none⟩ = some (.int .i64 p) ∧ w.cell? ⟨b, 1, none⟩ = some (.int .i64 e) ∧ ∃ cs fr, w.heap[b]? = some (Obj.cells cs 176 fr)
theorem FaultAt.below {w w' : World} {b : Nat} {p e : Int} (h : FaultAt w b p e) (hb : Below w.heap.size w w') : FaultAt w' b p e :=
  ⟨(hb.cell (World.block_lt_of_cell? w _ h.1)).trans h.1, (hb.cell (World.block_lt_of_cell? w _ h.2.1)).trans h.2.1, h.2.2.elim fun cs h2 => h2.elim fun fr h3 => ⟨cs, fr, (hb.block b (Array.getElem?_eq_some_iff.1 h3).1).trans h3⟩⟩
/-- A value reads as an error. -/
def ErrV (w : World) (v : Value) : GErr → Prop
  | .nil => v = .nilIface
  | .errno e => v = .iface 40 (.int .i64 e)
  | .fault p e => ∃ b, v = .iface 174 (.pointer (some ⟨b, 0, none⟩)) ∧ FaultAt w b p e
  | .joined p e => ∃ b s n c b1, v = .iface 257 (.pointer (some ⟨b, 0, none⟩)) ∧ w.cell? ⟨b, 0, none⟩ = some (.slice (some ⟨s, 0, none⟩) (n + 1) c) ∧ w.cell? ⟨s, 0, none⟩ = some (.iface 174 (.pointer (some ⟨b1, 0, none⟩))) ∧ FaultAt w b1 p e
theorem ErrV.below {w w' : World} {v : Value} {g : GErr} (h : ErrV w v g) (hb : Below w.heap.size w w') : ErrV w' v g := by
  cases g with
  | nil => exact h
  | errno e => exact h
  | fault p e => obtain ⟨b, h1, h2⟩ := h; exact ⟨b, h1, h2.below hb⟩
  | joined p e =>
    obtain ⟨b, s, n, c, b1, h1, h2, h3, h4⟩ := h
    exact ⟨b, s, n, c, b1, h1, (hb.cell (World.block_lt_of_cell? w _ h2)).trans h2, (hb.cell (World.block_lt_of_cell? w _ h3)).trans h3, h4.below hb⟩

set_option maxRecDepth 100000 in
set_option maxHeartbeats 1000000 in
theorem as_je (b s n c b1 : Nat) (p e : Int) (ta a : Addr) (old : Value) (w : World) (h1 : w.cell? ⟨b, 0, none⟩ = some (.slice (some ⟨s, 0, none⟩) (n + 1) c)) (h2 : w.cell? ⟨s, 0, none⟩ = some (.iface 174 (.pointer (some ⟨b1, 0, none⟩)))) (he : FaultAt w b1 p e) (ha : w.cell? a = some (.pointer (some ta))) (ht : w.cell? ta = some old) (hf : w.frozen? ta = false) :
    Calls Tryz.prog 89 #[.iface 257 (.pointer (some ⟨b, 0, none⟩)), .iface 130 (.pointer (some ta)), .agg #[.pointer (some ⟨4, 130, none⟩), .pointer (some a), .int .u64 150], .iface 229 (.agg #[.pointer (some ⟨4, 40, none⟩)])] w fun ev w' => ev = .returned (.bool true) ∧ w' = (((w.alloc (.cells #[.pointer (some ⟨4, 130, none⟩), .pointer (some a), .int .u64 150] 198)).alloc (.cells #[.pointer (some ⟨4, 130, none⟩), .pointer (some a), .int .u64 150] 198)).alloc (.cells #[.int .i64 e] 40)).setCell ta (.int .i64 e) := by
  have x1 := xTypeOf
  have x2 := xAssign
  have m1 := mAssignableTo
  have m2 := mUnwrapJ
  have q1 := typeOfJ
  have q2 := assignJE
  have q3 := noAsJ
  have q4 := noUnwrapJ
  have q5 := unwrapsJ
  have lta := World.block_lt_of_cell? w _ ht
  have la := World.block_lt_of_cell? w _ ha
  have g1 : (w.alloc (.cells #[.pointer (some ⟨4, 130, none⟩), .pointer (some a), .int .u64 150] 198)).cell? ⟨b, 0, none⟩ = some (.slice (some ⟨s, 0, none⟩) (n + 1) c) := by rw [World.cell?_alloc_lt _ _ _ (World.block_lt_of_cell? w _ h1)]; exact h1
  have g2 : (w.alloc (.cells #[.pointer (some ⟨4, 130, none⟩), .pointer (some a), .int .u64 150] 198)).cell? ⟨s, 0, none⟩ = some (.iface 174 (.pointer (some ⟨b1, 0, none⟩))) := by rw [World.cell?_alloc_lt _ _ _ (World.block_lt_of_cell? w _ h2)]; exact h2
  have hn : (0 : Int) < ((n + 1 : Nat) : Int) := by omega
  have HAS := Lib.hid (as_fe b1 e ta a old (w.alloc (.cells #[.pointer (some ⟨4, 130, none⟩), .pointer (some a), .int .u64 150] 198)) (he.below ((Below.refl _ _).alloc (Nat.le_refl _) _)).2.1 (by rw [World.cell?_alloc_lt _ _ _ la]; exact ha) (by rw [World.cell?_alloc_lt _ _ _ lta]; exact ht) (by rw [World.frozen?_alloc_old _ _ ta (Nat.ne_of_lt lta)]; exact hf))
  clear h1 h2 he ha ht hf
  go_enter Tryz.func89, Tryz.ntmps89
  go_wp2
  refine wp_loop_rounds 1 ?_
  rw [rounds_succ]
  go_wp2
  refine wp_loop_rounds 1 ?_
  rw [rounds_succ]
  go_wp2_with (go_at_call 89; refine HAS.out.mono ?_; rintro ev w' ⟨rfl, rfl⟩)
  go_ret
  exact ⟨rfl, rfl⟩

end Go.Proofs.YtkplkienbgoofaaGreatDoor
