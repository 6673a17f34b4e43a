/-
  path.Join.
-/
import Derived.Test.YtkplkienbgoofaaGreatDoorPathAny
import Derived.Test.YtkplkienbgoofaaGreatDoorPathFns
import Derived.Test.YtkplkienbgoofaaGreatDoorPathPlain3
import Derived.Test.YtkplkienbgoofaaGreatDoorPathPlain
import Derived.Test.YtkplkienbgoofaaGreatDoorShelf
import Derived.WalkKit
import Derived.Outline
import Derived.LaidEql
import Derived.Below
import Derived.WalkLawsBesides
import Derived.WalkSpells
import Derived.Deep.QuietTactic
import Derived.BigQuiet
import Derived.Deep.LoopGhost
import Derived.Lib.Hide
set_option linter.unusedVariables false
set_option linter.unusedSimpArgs false
namespace Go.Proofs.YtkplkienbgoofaaGreatDoor
open Go.RowKit

set_option maxRecDepth 100000 in
set_option maxHeartbeats 1000000 in
theorem join_ok (a b : ByteArray) (w : World) (ha : a.size ≤ 140737488351232) (hb : b.size ≤ 140737488351232) (hab : a.size + b.size + 1 ≤ 140737488351232) (hg : EnvM w) (h : checkB (joinB a b) = none) : Calls Tryz.prog 53 #[.string a, .string b] w fun e w' => e = .returned (.tuple #[.string (joinB a b), .nilIface]) ∧ Below w.heap.size w w' := by
  have s1 : a.size + 1 ≤ 9223372036854775807 := by omega
  have s2 : a.size + 1 + b.size ≤ 9223372036854775807 := by omega
  cases he : a.toList.isEmpty with
  | true =>
    rw [joinB_empty he] at h ⊢
    have HC := Lib.hid (check_ok b w (by omega) hg h)
    clear h hg
    go_enter Tryz.func53, Tryz.ntmps53
    go_wp2_with fail
    refine HC.out.mono ?_
    rintro e w' ⟨rfl, hb⟩
    go_wp2
    go_ret2
    exact ⟨rfl, hb⟩
  | false =>
    rw [joinB_root he] at h ⊢
    have HC := Lib.hid (check_ok (a ++ ⟨#[47]⟩ ++ b) w (by rw [join_size]; omega) hg h)
    clear h hg
    go_enter Tryz.func53, Tryz.ntmps53
    go_wp2_with fail
    refine HC.out.mono ?_
    rintro e w' ⟨rfl, hb⟩
    go_wp2
    go_ret2
    exact ⟨rfl, hb⟩
set_option maxRecDepth 100000 in
set_option maxHeartbeats 1000000 in
theorem join_bad (a b : ByteArray) (p : Nat) (w : World) (ha : a.size ≤ 140737488351232) (hb : b.size ≤ 140737488351232) (hab : a.size + b.size + 1 ≤ 140737488351232) (hg : EnvM w) (h : checkB (joinB a b) = some p) : Calls Tryz.prog 53 #[.string a, .string b] w fun e w' => ∃ f, e = .returned (.tuple #[.string ⟨#[]⟩, .iface 174 (.pointer (some ⟨f, 0, none⟩))]) ∧ FaultAt w' f p 90 ∧ Below w.heap.size w w' := by
  have s1 : a.size + 1 ≤ 9223372036854775807 := by omega
  have s2 : a.size + 1 + b.size ≤ 9223372036854775807 := by omega
  cases he : a.toList.isEmpty with
  | true =>
    rw [joinB_empty he] at h
    have HC := Lib.hid (check_bad b p w (by omega) hg h)
    clear h hg
    go_enter Tryz.func53, Tryz.ntmps53
    go_wp2_with fail
    refine HC.out.mono ?_
    rintro e w' ⟨f, rfl, hf, hb⟩
    have HF := Lib.hid hf
    clear hf
    go_wp2
    go_ret2
    exact ⟨f, rfl, HF.out, hb⟩
  | false =>
    rw [joinB_root he] at h
    have HC := Lib.hid (check_bad (a ++ ⟨#[47]⟩ ++ b) p w (by rw [join_size]; omega) hg h)
    clear h hg
    go_enter Tryz.func53, Tryz.ntmps53
    go_wp2_with fail
    refine HC.out.mono ?_
    rintro e w' ⟨f, rfl, hf, hb⟩
    have HF := Lib.hid hf
    clear hf
    go_wp2
    go_ret2
    exact ⟨f, rfl, HF.out, hb⟩
end Go.Proofs.YtkplkienbgoofaaGreatDoor
