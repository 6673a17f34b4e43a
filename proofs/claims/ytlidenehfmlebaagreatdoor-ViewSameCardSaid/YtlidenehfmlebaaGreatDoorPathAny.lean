/-
  path.Check at every text.
-/
import Derived.Test.YtlidenehfmlebaaGreatDoorPathCheck
import Derived.Test.YtlidenehfmlebaaGreatDoorPathPlain
import Derived.Test.YtlidenehfmlebaaGreatDoorShelf
import Derived.WalkKit
import Derived.Outline
import Derived.LaidEql
import Derived.Below
import Derived.WalkLawsBesides
import Derived.WalkSpells
import Derived.Deep.QuietTactic
import Derived.BigQuiet
import Derived.Deep.LoopGhost
import Derived.Lib.Hide
set_option linter.unusedVariables false
set_option linter.unusedSimpArgs false
namespace Go.Proofs.YtlidenehfmlebaaGreatDoor
open Go.RowKit

theorem check_any (s : ByteArray) (w : World) (hs : s.size ≤ 140737488351232) (hg : EnvM w) : Calls Tryz.prog 70 #[.string s] w (RetErr w (checkG s)) := by
  by_cases h : s.size = 0 ∨ 64 < s.size
  · exact check_size s w h hs
  · exact check_parts s w (by omega) (by omega) hg
theorem check_ok (s : ByteArray) (w : World) (hs : s.size ≤ 140737488351232) (hg : EnvM w) (h : checkB s = none) : Calls Tryz.prog 70 #[.string s] w fun e w' => e = .returned .nilIface ∧ Below w.heap.size w w' := by
  refine (check_any s w hs hg).mono ?_
  rintro e w' ⟨v, rfl, hv, hb⟩
  rw [checkG_none h] at hv
  exact ⟨congrArg _ hv, hb⟩
theorem check_bad (s : ByteArray) (p : Nat) (w : World) (hs : s.size ≤ 140737488351232) (hg : EnvM w) (h : checkB s = some p) : Calls Tryz.prog 70 #[.string s] w fun e w' => ∃ b, e = .returned (.iface 186 (.pointer (some ⟨b, 0, none⟩))) ∧ FaultAt w' b p 90 ∧ Below w.heap.size w w' := by
  refine (check_any s w hs hg).mono ?_
  rintro e w' ⟨v, rfl, hv, hb⟩
  rw [checkG_of h] at hv
  obtain ⟨b, rfl, hf⟩ := hv
  exact ⟨b, rfl, hf, hb⟩
theorem ab_bad : checkB ⟨#[97, 47, 47, 98]⟩ = some 2 := by rw [checkB_slash _ (by decide) (by decide)]; decide
theorem abc_ok : checkB ⟨#[97, 47, 98, 46, 99]⟩ = none := by rw [checkB_slash _ (by decide) (by decide)]; decide
end Go.Proofs.YtlidenehfmlebaaGreatDoor
