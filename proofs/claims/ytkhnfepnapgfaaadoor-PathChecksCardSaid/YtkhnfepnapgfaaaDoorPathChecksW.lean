/-
  The law PathChecks, walked.
-/
import Derived.Test.YtkhnfepnapgfaaaDoorPathHead
import Derived.Test.YtkhnfepnapgfaaaDoorRefPath
import Derived.Test.YtkhnfepnapgfaaaDoorPathPlain
import Derived.Test.YtkhnfepnapgfaaaDoorShelf
import Derived.WalkKit
import Derived.Outline
import Derived.LaidEql
import Derived.Below
import Derived.WalkLawsBesides
import Derived.WalkSpells
import Derived.Deep.QuietTactic
import Derived.BigQuiet
import Derived.Deep.LoopGhost
import Derived.Lib.Hide
set_option linter.unusedVariables false
set_option linter.unusedSimpArgs false
namespace Go.Proofs.YtkhnfepnapgfaaaDoor
open Go.RowKit

set_option maxRecDepth 100000 in
set_option maxHeartbeats 1000000 in
theorem pathChecks_walk (s : ByteArray) (w : World) (hs : s.size ≤ 140737488351232) (hg : Env w) : Calls Tryd.prog 6 #[.string s] w fun e w' => e = .returned (.bool true) ∧ Below w.heap.size w w' := by
  have HK := Lib.hid (checks_any w hg)
  have HG := Lib.hid hg
  clear hg
  cases hc : checkB s with
  | none =>
    have HC := Lib.hid hc
    have hr := fun W => rcheck_any s W hs
    rw [hc] at hr
    have HR := Lib.hid hr
    clear hc hr
    go_enter Tryd.func6, Tryd.ntmps6
    go_wp2_with fail
    refine HK.out.mono ?_
    rintro e w1 ⟨rfl, hb1⟩
    have HG1 := Lib.hid (HG.out.below hb1)
    go_wp2_with fail
    refine (check_ok s w1 hs HG1.out.ml HC.out).mono ?_
    rintro e w2 ⟨rfl, hb2⟩
    go_wp2_with fail
    refine (HR.out w2).mono ?_
    rintro e w2 ⟨he, rfl⟩
    obtain rfl : e = .returned (.tuple #[.int .i64 0, .int .i64 0]) := he
    go_wp2
    go_ret
    exact ⟨rfl, below_from hb1 hb2⟩
  | some p =>
    have HC := Lib.hid hc
    have hr := fun W => rcheck_any s W hs
    rw [hc] at hr
    have HR := Lib.hid hr
    clear hc hr
    go_enter Tryd.func6, Tryd.ntmps6
    go_wp2_with fail
    refine HK.out.mono ?_
    rintro e w1 ⟨rfl, hb1⟩
    have HG1 := Lib.hid (HG.out.below hb1)
    go_wp2_with fail
    refine (check_bad s p w1 hs HG1.out.ml HC.out).mono ?_
    rintro e w2 ⟨b, rfl, hf2, hb2⟩
    have HG2 := Lib.hid (HG1.out.below hb2)
    have HF2 := Lib.hid hf2
    clear hf2
    go_wp2_with fail
    refine (HR.out w2).mono ?_
    rintro e w2 ⟨he, rfl⟩
    obtain rfl : e = .returned (.tuple #[.int .i64 1, .int .i64 p]) := he
    go_wp2_with fail
    refine (is_fault b p 90 90 _ HF2.out).mono ?_
    rintro e w2 ⟨rfl, rfl⟩
    go_wp2_with fail
    refine (place_fault b p 90 _ HF2.out HG2.out).mono ?_
    rintro e w4 ⟨rfl, hb4⟩
    go_wp2
    go_ret
    exact ⟨rfl, below_from (below_from hb1 hb2) hb4⟩
end Go.Proofs.YtkhnfepnapgfaaaDoor
