/-
  path.Clash and path.Beneath, and the reference's: what they come to.
-/
import Derived.Test.YtkplkienbgoofaaDoorProg
import Derived.Test.YtkplkienbgoofaaDoorPathPlain2
import Derived.Deep.RegionWith
import Derived.Test.YtkplkienbgoofaaDoorShelf
import Derived.WalkKit
import Derived.Outline
import Derived.LaidEql
import Derived.Below
import Derived.WalkLawsBesides
import Derived.WalkSpells
import Derived.Deep.QuietTactic
import Derived.BigQuiet
import Derived.Deep.LoopGhost
import Derived.Lib.Hide
set_option linter.unusedVariables false
set_option linter.unusedSimpArgs false
namespace Go.Proofs.YtkplkienbgoofaaDoor
open Go.RowKit

theorem cutPrefix_slash (a b : ByteArray) (w : World) : Calls Tryd.prog 25 #[.string a, .string (b ++ ⟨#[47]⟩)] w fun e w' => e = .returned (.tuple #[.string (trimP a (slash b)), .bool (hasP a (slash b))]) ∧ w' = w := by
  rw [slash_def, ← hasP_def, ← trimP_def]
  exact Tryd.strings_CutPrefix a (slash b) w
set_option maxRecDepth 100000 in
set_option maxHeartbeats 1000000 in
/-- path.Beneath. -/
theorem beneath_any (a b : ByteArray) (w : World) (ha : a.size ≤ 140737488351232) : Calls Tryd.prog 16 #[.string a, .string b] w fun e w' => e = .returned (.tuple #[.string (beneathB a b).1, .bool (beneathB a b).2]) ∧ w' = w := by
  have s1 : a.size + 1 ≤ 9223372036854775807 := by omega
  have H1 := Lib.hid (cutPrefix_slash b a)
  cases he : a.toList.isEmpty with
  | true =>
    have hr : beneathB a b = (b, !b.toList.isEmpty) := by rw [beneathB, if_pos he]
    rw [hr]
    clear hr
    go_enter Tryd.func16, Tryd.ntmps16
    go_wp2
    go_ret2
    exact ⟨rfl, rfl⟩
  | false =>
    have hr : beneathB a b = (trimP b (slash a), hasP b (slash a) && !(trimP b (slash a)).toList.isEmpty) := by rw [beneathB, if_neg (by simp [he])]
    rw [hr]
    clear hr
    cases h1 : hasP b (slash a) with
    | true =>
      go_enter Tryd.func16, Tryd.ntmps16
      go_wp2_with fail
      refine (H1.out _).mono ?_
      rintro e w' ⟨rfl, rfl⟩
      go_wp2
      go_ret2
      exact ⟨rfl, rfl⟩
    | false =>
      go_enter Tryd.func16, Tryd.ntmps16
      go_wp2_with fail
      refine (H1.out _).mono ?_
      rintro e w' ⟨rfl, rfl⟩
      go_wp2
      go_ret2
      exact ⟨rfl, rfl⟩
end Go.Proofs.YtkplkienbgoofaaDoor
