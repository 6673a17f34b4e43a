/-
  errors.As and errors.Is by contracts at the program's error types; code.Number and code.Place.
-/
import Derived.Test.YtlidenehfmlebaaGreatDoorErrV
import Derived.Lib.Hide
import Derived.WalkKit
import Derived.Outline
import Derived.LaidEql
import Derived.Below
import Derived.Deep.Draws
import Derived.Stop.Asserts
import Derived.RowKitTokens
import Derived.WalkLawsBesides
import Derived.WalkSpells
import Derived.Deep.QuietTactic
import Derived.BigQuiet
import Derived.Deep.RegionWith
set_option linter.unusedVariables false
set_option linter.unusedSimpArgs false
namespace Go.Proofs.YtlidenehfmlebaaGreatDoor
open Go.RowKit Go.Extern.Stop Go.Stop Go.Extern

/-- A cell of a variable of the call's own is set, and new blocks are laid. -/
def Sets (w : World) (ta : Addr) (v : Value) (w' : World) : Prop := ∃ W, Below w.heap.size w W ∧ w' = W.setCell ta v
theorem as_nil (t : Value) (w : World) : Calls Tryz.prog 57 #[.nilIface, t] w fun e w' => e = .returned (.bool false) ∧ w' = w := by
  go_enter Tryz.func57, Tryz.ntmps57
  go_wp2
  go_ret
  exact ⟨rfl, rfl⟩
theorem below_two (w : World) (o1 o2 : Obj) : Below w.heap.size w ((w.alloc o1).alloc o2) := ((Below.refl _ _).alloc (Nat.le_refl _) _).alloc (by simp) _
theorem below_one (w : World) (o1 : Obj) : Below w.heap.size w (w.alloc o1) := (Below.refl _ _).alloc (Nat.le_refl _) _
theorem below_from {w W W' : World} (h1 : Below w.heap.size w W) (h2 : Below W.heap.size W W') : Below w.heap.size w W' := h1.trans (h2.mono h1.size)
theorem lt_of_cell {w : World} {a : Addr} {v : Value} (h : w.cell? a = some v) : a.block < w.heap.size := World.block_lt_of_cell? w _ h
theorem cell_below {w W : World} {a : Addr} {v : Value} (hb : Below w.heap.size w W) (h : w.cell? a = some v) : W.cell? a = some v := (hb.cell (lt_of_cell h)).trans h
theorem frozen_below {w W : World} {a : Addr} {v : Value} (hb : Below w.heap.size w W) (hc : w.cell? a = some v) (h : w.frozen? a = false) : W.frozen? a = false := (hb.frozen (lt_of_cell hc)).trans h

/-- errors.As at an Errno. -/
theorem As_num (v : Value) (g : GErr) (ta : Addr) (old : Value) (w : World) (hv : ErrV w v g) (hn : g ≠ .nil) (hg : Env w) (ht : w.cell? ta = some old) (hf : w.frozen? ta = false) :
    Calls Tryz.prog 57 #[v, .iface 146 (.pointer (some ta))] w fun ev w' => ev = .returned (.bool true) ∧ Sets w ta (.int .i64 g.num) w' := by
  have fin : ∀ (ev : Ending) (w' : World), (ev = .returned (.bool true) ∧ ∃ W, Below w.heap.size w W ∧ Sets W ta (.int .i64 g.num) w') → ev = .returned (.bool true) ∧ Sets w ta (.int .i64 g.num) w' :=
    fun ev w' ⟨h1, W, h2, W', h3, h4⟩ => ⟨h1, W', below_from h2 h3, h4⟩
  cases g with
  | nil => exact absurd rfl hn
  | errno e =>
    obtain rfl := hv
    exact (As_E _ _ ta old true (fun W w' => Sets W ta (.int .i64 e) w') w hg ht fun a W hb ha => (as_ee e ta a old W ha (cell_below hb ht) (frozen_below hb ht hf)).mono fun ev w' ⟨h1, h2⟩ => ⟨h1, _, below_two _ _ _, h2⟩).mono fin
  | fault p e =>
    obtain ⟨b, rfl, hb0⟩ := hv
    exact (As_E _ _ ta old true (fun W w' => Sets W ta (.int .i64 e) w') w hg ht fun a W hb ha => (as_fe b e ta a old W (hb0.below hb).2.1 ha (cell_below hb ht) (frozen_below hb ht hf)).mono fun ev w' ⟨h1, h2⟩ => ⟨h1, _, below_two _ _ _, h2⟩).mono fin
  | joined p e => exact hv.elim

/-- What errors.As says at a *Fault, and what it sets. -/
def FaultIn (w : World) : GErr → Value → Prop
  | .fault p e, u => ∃ b, u = .pointer (some ⟨b, 0, none⟩) ∧ FaultAt w b p e
  | .joined p e, u => ∃ b, u = .pointer (some ⟨b, 0, none⟩) ∧ FaultAt w b p e
  | _, _ => False
def AsPlace (w : World) (ta : Addr) (g : GErr) (ev : Ending) (w' : World) : Prop :=
  match g with
  | .nil => ev = .returned (.bool false) ∧ w' = w
  | .errno _ => ev = .returned (.bool false) ∧ Below w.heap.size w w'
  | .fault p e => ∃ u, FaultIn w (.fault p e) u ∧ ev = .returned (.bool true) ∧ Sets w ta u w'
  | .joined p e => ∃ u, FaultIn w (.joined p e) u ∧ ev = .returned (.bool true) ∧ Sets w ta u w'
theorem cell_set_new {w W : World} {o : Obj} (hb : Below (w.alloc o).heap.size (w.alloc o) W) {v u : Value} (hc : (w.alloc o).cell? ⟨w.heap.size, 0, none⟩ = some v) : (W.setCell ⟨w.heap.size, 0, none⟩ u).cell? ⟨w.heap.size, 0, none⟩ = some u :=
  World.cell?_setCell_same _ _ _ (cell_below hb hc)

set_option maxRecDepth 100000 in
set_option maxHeartbeats 1000000 in
/-- code.Number. -/
theorem number (v : Value) (g : GErr) (w : World) (hv : ErrV w v g) (hg : Env w) :
    Calls Tryz.prog 34 #[v] w fun e w' => e = .returned (.int .i64 g.num) ∧ Below w.heap.size w w' := by
  have b1 := below_one w (.cells #[.int .i64 0] 52)
  by_cases hn : g = .nil
  · subst hn
    obtain rfl := hv
    go_enter Tryz.func34, Tryz.ntmps34
    go_wp2_with (go_at_call 57; refine (as_nil _ _).mono ?_; rintro ev w' ⟨rfl, rfl⟩)
    go_ret
    exact ⟨rfl, b1⟩
  · have HAS := Lib.hid (As_num v g ⟨w.heap.size, 0, none⟩ (.int .i64 0) (w.alloc (.cells #[.int .i64 0] 52)) (hv.below b1) hn (hg.below b1) (by simp) (by simp))
    clear hv hn hg
    go_enter Tryz.func34, Tryz.ntmps34
    go_wp2_with (go_at_call 57; refine HAS.out.mono ?_; rintro ev w' ⟨rfl, W, hb, rfl⟩; have hc := cell_set_new hb (u := .int .i64 g.num) (v := .int .i64 0) (by simp))
    go_ret
    exact ⟨rfl, (below_from b1 hb).setCell (by simp) _⟩

theorem fault_set {w W : World} {o : Obj} (hb : Below (w.alloc o).heap.size (w.alloc o) W) {b : Nat} {p e : Int} {u : Value} (hf : FaultAt (w.alloc o) b p e) (hn : (w.alloc o).cell? ⟨w.heap.size, 0, none⟩ = some (.pointer none)) :
    (W.setCell ⟨w.heap.size, 0, none⟩ u).cell? ⟨b, 0, none⟩ = some (.int .i64 p) := by
  have hne : (⟨w.heap.size, 0, none⟩ : Addr) ≠ ⟨b, 0, none⟩ := by
    intro e0
    have e1 := hf.1
    rw [← e0, hn] at e1
    simp at e1
  exact (World.cell?_setCell_other _ _ _ _ hne).trans (cell_below hb hf.1)
end Go.Proofs.YtlidenehfmlebaaGreatDoor
