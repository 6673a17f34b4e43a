/-
  The law PathBeneath, walked.
-/
import Derived.Test.YtkhnfepnapgfaaaDoorPathHead
import Derived.Test.YtkhnfepnapgfaaaDoorRefPath
import Derived.Test.YtkhnfepnapgfaaaDoorPathFns
import Derived.Test.YtkhnfepnapgfaaaDoorPathPlain
import Derived.Test.YtkhnfepnapgfaaaDoorShelf
import Derived.WalkKit
import Derived.Outline
import Derived.LaidEql
import Derived.Below
import Derived.WalkLawsBesides
import Derived.WalkSpells
import Derived.Deep.QuietTactic
import Derived.BigQuiet
import Derived.Deep.LoopGhost
import Derived.Lib.Hide
set_option linter.unusedVariables false
set_option linter.unusedSimpArgs false
namespace Go.Proofs.YtkhnfepnapgfaaaDoor
open Go.RowKit

set_option maxRecDepth 100000 in
set_option maxHeartbeats 1000000 in
theorem pathBeneath_walk (a b : ByteArray) (w : World) (ha : a.size ≤ 140737488351232) (hb : b.size ≤ 140737488351232) (hg : Env w) : Calls Tryd.prog 9 #[.string a, .string b] w fun e w' => e = .returned (.bool true) ∧ Below w.heap.size w w' := by
  have HK := Lib.hid (checks_any w hg)
  clear hg
  by_cases h1 : (200 : Int) < a.size
  · go_enter Tryd.func9, Tryd.ntmps9
    go_wp2_with fail
    refine HK.out.mono ?_
    rintro e w1 ⟨rfl, hb1⟩
    go_wp2
    go_ret
    exact ⟨rfl, hb1⟩
  · by_cases h2 : (200 : Int) < b.size
    · have d1 : decide ((200 : Int) < a.size) = false := by simpa using h1
      have d2 : decide ((200 : Int) < b.size) = true := by simpa using h2
      go_enter Tryd.func9, Tryd.ntmps9
      go_wp2_with fail
      refine HK.out.mono ?_
      rintro e w1 ⟨rfl, hb1⟩
      go_wp2
      go_ret
      exact ⟨rfl, hb1⟩
    · have d1 : decide ((200 : Int) < a.size) = false := by simpa using h1
      have d2 : decide ((200 : Int) < b.size) = false := by simpa using h2
      have q1 : (beneathB a b).1 = (beneathB a b).1 := rfl
      have hc : clashB b a = clashB a b := clashB_comm b a
      have C1 := Lib.hid (fun W => clash_any a b W ha hb)
      have hc2 := fun W => clash_any b a W hb ha
      rw [hc] at hc2
      have C2 := Lib.hid hc2
      have C3 := Lib.hid (fun W => rclash_any a b W ha hb)
      have C4 := Lib.hid (fun W => beneath_any a b W ha)
      have C5 := Lib.hid (fun W => rbeneath_any a b W ha)
      clear hc hc2 q1 h1 h2
      go_enter Tryd.func9, Tryd.ntmps9
      go_wp2_with fail
      refine HK.out.mono ?_
      rintro e w1 ⟨rfl, hb1⟩
      generalize beneathB a b = r at C4 C5
      obtain ⟨r1, r2⟩ := r
      go_wp2_with fail
      refine (C4.out _).mono ?_
      rintro e w' ⟨rfl, rfl⟩
      go_wp2_with fail
      refine (C5.out _).mono ?_
      rintro e w' ⟨rfl, rfl⟩
      go_wp2_with fail
      refine (C1.out _).mono ?_
      rintro e w' ⟨rfl, rfl⟩
      go_wp2_with fail
      refine (C3.out _).mono ?_
      rintro e w' ⟨rfl, rfl⟩
      go_wp2_with fail
      refine (C2.out _).mono ?_
      rintro e w' ⟨rfl, rfl⟩
      go_wp2_with fail
      refine (C1.out _).mono ?_
      rintro e w' ⟨rfl, rfl⟩
      go_wp2
      go_ret
      exact ⟨rfl, hb1⟩
end Go.Proofs.YtkhnfepnapgfaaaDoor
