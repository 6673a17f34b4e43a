/-
  errors.As and errors.Is by contracts at the program's error types; code.Number and code.Place.
-/
import Derived.Test.YtlidenehfmlebaaGreatDoorErrAs2
import Derived.Lib.Hide
import Derived.WalkKit
import Derived.Outline
import Derived.LaidEql
import Derived.Below
import Derived.Deep.Draws
import Derived.Stop.Asserts
import Derived.RowKitTokens
import Derived.WalkLawsBesides
import Derived.WalkSpells
import Derived.Deep.QuietTactic
import Derived.BigQuiet
import Derived.Deep.RegionWith
set_option linter.unusedVariables false
set_option linter.unusedSimpArgs false
namespace Go.Proofs.YtlidenehfmlebaaGreatDoor
open Go.RowKit Go.Extern.Stop Go.Stop Go.Extern

/-! ### the program's errors -/
/-- nil, an Errno, a Fault, or what errors.Join makes of a Fault and something more. -/
inductive GErr where
  | nil
  | errno (e : Int)
  | fault (place e : Int)
  | joined (place e : Int)
def GErr.num : GErr → Int
  | .nil => 0
  | .errno e => e
  | .fault _ e => e
  | .joined _ e => e
def GErr.place : GErr → Int
  | .nil => -1
  | .errno _ => -1
  | .fault p _ => p
  | .joined p _ => p
/-- A Fault's two cells. -/
def FaultAt (w : World) (b : Nat) (p e : Int) : Prop := w.cell? ⟨b, 0, none⟩ = some (.int .i64 p) ∧ w.cell? ⟨b, 1, none⟩ = some (.int .i64 e) ∧ ∃ cs fr, w.heap[b]? = some (Obj.cells cs 188 fr)
theorem FaultAt.below {w w' : World} {b : Nat} {p e : Int} (h : FaultAt w b p e) (hb : Below w.heap.size w w') : FaultAt w' b p e :=
  ⟨(hb.cell (World.block_lt_of_cell? w _ h.1)).trans h.1, (hb.cell (World.block_lt_of_cell? w _ h.2.1)).trans h.2.1, h.2.2.elim fun cs h2 => h2.elim fun fr h3 => ⟨cs, fr, (hb.block b (Array.getElem?_eq_some_iff.1 h3).1).trans h3⟩⟩
/-- A value reads as an error. -/
def ErrV (w : World) (v : Value) : GErr → Prop
  | .nil => v = .nilIface
  | .errno e => v = .iface 52 (.int .i64 e)
  | .fault p e => ∃ b, v = .iface 186 (.pointer (some ⟨b, 0, none⟩)) ∧ FaultAt w b p e
  | .joined _ _ => False
theorem ErrV.below {w w' : World} {v : Value} {g : GErr} (h : ErrV w v g) (hb : Below w.heap.size w w') : ErrV w' v g := by
  cases g with
  | nil => exact h
  | errno e => exact h
  | fault p e => obtain ⟨b, h1, h2⟩ := h; exact ⟨b, h1, h2.below hb⟩
  | joined p e => exact h.elim

end Go.Proofs.YtlidenehfmlebaaGreatDoor
