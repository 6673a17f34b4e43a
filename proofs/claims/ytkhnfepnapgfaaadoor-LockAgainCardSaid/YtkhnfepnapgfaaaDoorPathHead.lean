/-
  path.Check at every text; the head of the path laws.
-/
import Derived.Test.YtkhnfepnapgfaaaDoorPathCheck
import Derived.Test.YtkhnfepnapgfaaaDoorPathPlain
import Derived.Test.YtkhnfepnapgfaaaDoorShelf
import Derived.WalkKit
import Derived.Outline
import Derived.LaidEql
import Derived.Below
import Derived.WalkLawsBesides
import Derived.WalkSpells
import Derived.Deep.QuietTactic
import Derived.BigQuiet
import Derived.Deep.LoopGhost
import Derived.Lib.Hide
set_option linter.unusedVariables false
set_option linter.unusedSimpArgs false
namespace Go.Proofs.YtkhnfepnapgfaaaDoor
open Go.RowKit

theorem check_any (s : ByteArray) (w : World) (hs : s.size ≤ 140737488351232) (hg : EnvM w) : Calls Tryd.prog 26 #[.string s] w (RetErr w (checkG s)) := by
  by_cases h : s.size = 0 ∨ 64 < s.size
  · exact check_size s w h hs
  · exact check_parts s w (by omega) (by omega) hg
theorem check_ok (s : ByteArray) (w : World) (hs : s.size ≤ 140737488351232) (hg : EnvM w) (h : checkB s = none) : Calls Tryd.prog 26 #[.string s] w fun e w' => e = .returned .nilIface ∧ Below w.heap.size w w' := by
  refine (check_any s w hs hg).mono ?_
  rintro e w' ⟨v, rfl, hv, hb⟩
  rw [checkG_none h] at hv
  exact ⟨congrArg _ hv, hb⟩
theorem check_bad (s : ByteArray) (p : Nat) (w : World) (hs : s.size ≤ 140737488351232) (hg : EnvM w) (h : checkB s = some p) : Calls Tryd.prog 26 #[.string s] w fun e w' => ∃ b, e = .returned (.iface 87 (.pointer (some ⟨b, 0, none⟩))) ∧ FaultAt w' b p 90 ∧ Below w.heap.size w w' := by
  refine (check_any s w hs hg).mono ?_
  rintro e w' ⟨v, rfl, hv, hb⟩
  rw [checkG_of h] at hv
  obtain ⟨b, rfl, hf⟩ := hv
  exact ⟨b, rfl, hf, hb⟩
theorem ab_bad : checkB ⟨#[97, 47, 47, 98]⟩ = some 2 := by rw [checkB_slash _ (by decide) (by decide)]; decide
theorem abc_ok : checkB ⟨#[97, 47, 98, 46, 99]⟩ = none := by rw [checkB_slash _ (by decide) (by decide)]; decide
theorem place_fault (b : Nat) (p k : Int) (w : World) (hf : FaultAt w b p k) (hg : Env w) : Calls Tryd.prog 29 #[.iface 87 (.pointer (some ⟨b, 0, none⟩))] w fun e w' => e = .returned (.int .i64 p) ∧ Below w.heap.size w w' :=
  place _ (.fault p k) w ⟨b, rfl, hf⟩ hg
set_option maxRecDepth 100000 in
set_option maxHeartbeats 1000000 in
/-- checks: a path, and none. -/
theorem checks_any (w : World) (hg : Env w) : Calls Tryd.prog 25 #[] w fun e w' => e = .returned (.bool true) ∧ Below w.heap.size w w' := by
  have h1 := check_bad ⟨#[97, 47, 47, 98]⟩ 2 w (by decide) hg.ml ab_bad
  have H1 := Lib.hid h1
  clear h1
  have HG := Lib.hid hg
  clear hg
  go_enter Tryd.func25, Tryd.ntmps25
  go_wp2_with fail
  refine H1.out.mono ?_
  rintro e w1 ⟨b, rfl, hf1, hb1⟩
  have HG1 := Lib.hid (HG.out.below hb1)
  have HF1 := Lib.hid hf1
  clear hf1
  go_wp2_with fail
  refine (check_ok ⟨#[97, 47, 98, 46, 99]⟩ w1 (by decide) HG1.out.ml abc_ok).mono ?_
  rintro e w2 ⟨rfl, hb2⟩
  have HG2 := Lib.hid (HG1.out.below hb2)
  have HF2 := Lib.hid (HF1.out.below hb2)
  go_wp2_with fail
  refine (is_fault b 2 90 90 w2 HF2.out).mono ?_
  rintro e w3 ⟨rfl, rfl⟩
  go_wp2_with fail
  refine (place_fault b 2 90 _ HF2.out HG2.out).mono ?_
  rintro e w4 ⟨rfl, hb4⟩
  go_wp2
  go_ret
  exact ⟨rfl, below_from (below_from hb1 hb2) hb4⟩
end Go.Proofs.YtkhnfepnapgfaaaDoor
