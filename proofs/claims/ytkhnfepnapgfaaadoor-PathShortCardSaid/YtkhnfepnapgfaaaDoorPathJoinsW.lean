/-
  path.Join; the law PathJoins, walked.
-/
import Derived.Test.YtkhnfepnapgfaaaDoorPathHead
import Derived.Test.YtkhnfepnapgfaaaDoorRefPath
import Derived.Test.YtkhnfepnapgfaaaDoorPathFns
import Derived.Test.YtkhnfepnapgfaaaDoorPathPlain3
import Derived.Test.YtkhnfepnapgfaaaDoorPathPlain
import Derived.Test.YtkhnfepnapgfaaaDoorShelf
import Derived.WalkKit
import Derived.Outline
import Derived.LaidEql
import Derived.Below
import Derived.WalkLawsBesides
import Derived.WalkSpells
import Derived.Deep.QuietTactic
import Derived.BigQuiet
import Derived.Deep.LoopGhost
import Derived.Lib.Hide
set_option linter.unusedVariables false
set_option linter.unusedSimpArgs false
namespace Go.Proofs.YtkhnfepnapgfaaaDoor
open Go.RowKit

set_option maxRecDepth 100000 in
set_option maxHeartbeats 1000000 in
theorem join_ok (a b : ByteArray) (w : World) (ha : a.size ≤ 140737488351232) (hb : b.size ≤ 140737488351232) (hab : a.size + b.size + 1 ≤ 140737488351232) (hg : EnvM w) (h : checkB (joinB a b) = none) : Calls Tryd.prog 30 #[.string a, .string b] w fun e w' => e = .returned (.tuple #[.string (joinB a b), .nilIface]) ∧ Below w.heap.size w w' := by
  have s1 : a.size + 1 ≤ 9223372036854775807 := by omega
  have s2 : a.size + 1 + b.size ≤ 9223372036854775807 := by omega
  cases he : a.toList.isEmpty with
  | true =>
    rw [joinB_empty he] at h ⊢
    have HC := Lib.hid (check_ok b w (by omega) hg h)
    clear h hg
    go_enter Tryd.func30, Tryd.ntmps30
    go_wp2_with fail
    refine HC.out.mono ?_
    rintro e w' ⟨rfl, hb⟩
    go_wp2
    go_ret2
    exact ⟨rfl, hb⟩
  | false =>
    rw [joinB_root he] at h ⊢
    have HC := Lib.hid (check_ok (a ++ ⟨#[47]⟩ ++ b) w (by rw [join_size]; omega) hg h)
    clear h hg
    go_enter Tryd.func30, Tryd.ntmps30
    go_wp2_with fail
    refine HC.out.mono ?_
    rintro e w' ⟨rfl, hb⟩
    go_wp2
    go_ret2
    exact ⟨rfl, hb⟩
set_option maxRecDepth 100000 in
set_option maxHeartbeats 1000000 in
theorem join_bad (a b : ByteArray) (p : Nat) (w : World) (ha : a.size ≤ 140737488351232) (hb : b.size ≤ 140737488351232) (hab : a.size + b.size + 1 ≤ 140737488351232) (hg : EnvM w) (h : checkB (joinB a b) = some p) : Calls Tryd.prog 30 #[.string a, .string b] w fun e w' => ∃ f, e = .returned (.tuple #[.string ⟨#[]⟩, .iface 87 (.pointer (some ⟨f, 0, none⟩))]) ∧ FaultAt w' f p 90 ∧ Below w.heap.size w w' := by
  have s1 : a.size + 1 ≤ 9223372036854775807 := by omega
  have s2 : a.size + 1 + b.size ≤ 9223372036854775807 := by omega
  cases he : a.toList.isEmpty with
  | true =>
    rw [joinB_empty he] at h
    have HC := Lib.hid (check_bad b p w (by omega) hg h)
    clear h hg
    go_enter Tryd.func30, Tryd.ntmps30
    go_wp2_with fail
    refine HC.out.mono ?_
    rintro e w' ⟨f, rfl, hf, hb⟩
    have HF := Lib.hid hf
    clear hf
    go_wp2
    go_ret2
    exact ⟨f, rfl, HF.out, hb⟩
  | false =>
    rw [joinB_root he] at h
    have HC := Lib.hid (check_bad (a ++ ⟨#[47]⟩ ++ b) p w (by rw [join_size]; omega) hg h)
    clear h hg
    go_enter Tryd.func30, Tryd.ntmps30
    go_wp2_with fail
    refine HC.out.mono ?_
    rintro e w' ⟨f, rfl, hf, hb⟩
    have HF := Lib.hid hf
    clear hf
    go_wp2
    go_ret2
    exact ⟨f, rfl, HF.out, hb⟩
set_option maxRecDepth 100000 in
set_option maxHeartbeats 1000000 in
theorem pathJoins_small (a b : ByteArray) (w : World) (ha : a.size ≤ 200) (hb : b.size ≤ 200) (hg : Env w) : Calls Tryd.prog 10 #[.string a, .string b] w fun e w' => e = .returned (.bool true) ∧ Below w.heap.size w w' := by
  have HK := Lib.hid (checks_any w hg)
  have HG := Lib.hid hg
  have s1 : a.size + 1 ≤ 9223372036854775807 := by omega
  have s2 : a.size + 1 + b.size ≤ 9223372036854775807 := by omega
  have d1 : decide ((200 : Int) < a.size) = false := by simp; omega
  have d2 : decide ((200 : Int) < b.size) = false := by simp; omega
  clear hg
  cases hc : checkB (joinB a b) with
  | none =>
    have HJB := join_beneath hc
    have hjn := fun W hg => join_ok a b W (by omega) (by omega) (by omega) hg hc
    cases he : a.toList.isEmpty with
    | true =>
      have hj := joinB_empty he (s := b)
      rw [hj] at hc
      have hr := fun W => rcheck_any b W (by omega)
      rw [hc] at hr
      have HR := Lib.hid hr
      have hbn := fun W => beneath_any a b W (by omega)
      rw [hj] at HJB
      rw [HJB] at hbn
      have HB := Lib.hid hbn
      rw [hj] at hjn
      have HJ := Lib.hid hjn
      clear hc hr hbn hjn hj HJB
      go_enter Tryd.func10, Tryd.ntmps10
      go_wp2_with fail
      refine HK.out.mono ?_
      rintro e w1 ⟨rfl, hb1⟩
      have HG1 := Lib.hid (HG.out.below hb1)
      go_wp2_with fail
      refine (HJ.out w1 HG1.out.ml).mono ?_
      rintro e w2 ⟨rfl, hb2⟩
      go_wp2_with fail
      refine (HR.out w2).mono ?_
      rintro e w2 ⟨he2, rfl⟩
      obtain rfl : e = .returned (.tuple #[.int .i64 0, .int .i64 0]) := he2
      go_wp2_with fail
      refine (HB.out _).mono ?_
      rintro e w2 ⟨rfl, rfl⟩
      go_wp2
      go_ret
      exact ⟨rfl, below_from hb1 hb2⟩
    | false =>
      have hj := joinB_root he (s := b)
      rw [hj] at hc
      have hr := fun W => rcheck_any (a ++ ⟨#[47]⟩ ++ b) W (by rw [join_size]; omega)
      rw [hc] at hr
      have HR := Lib.hid hr
      have hbn := fun W => beneath_any a (a ++ ⟨#[47]⟩ ++ b) W (by omega)
      rw [hj] at HJB
      rw [HJB] at hbn
      have HB := Lib.hid hbn
      rw [hj] at hjn
      have HJ := Lib.hid hjn
      clear hc hr hbn hjn hj HJB
      go_enter Tryd.func10, Tryd.ntmps10
      go_wp2_with fail
      refine HK.out.mono ?_
      rintro e w1 ⟨rfl, hb1⟩
      have HG1 := Lib.hid (HG.out.below hb1)
      go_wp2_with fail
      refine (HJ.out w1 HG1.out.ml).mono ?_
      rintro e w2 ⟨rfl, hb2⟩
      go_wp2_with fail
      refine (HR.out w2).mono ?_
      rintro e w2 ⟨he2, rfl⟩
      obtain rfl : e = .returned (.tuple #[.int .i64 0, .int .i64 0]) := he2
      go_wp2_with fail
      refine (HB.out _).mono ?_
      rintro e w2 ⟨rfl, rfl⟩
      go_wp2
      go_ret
      exact ⟨rfl, below_from hb1 hb2⟩
  | some p =>
    have hjn := fun W hg => join_bad a b p W (by omega) (by omega) (by omega) hg hc
    cases he : a.toList.isEmpty with
    | true =>
      have hj := joinB_empty he (s := b)
      rw [hj] at hc
      have hr := fun W => rcheck_any b W (by omega)
      rw [hc] at hr
      have HR := Lib.hid hr
      have HJ := Lib.hid hjn
      clear hc hr hjn hj
      go_enter Tryd.func10, Tryd.ntmps10
      go_wp2_with fail
      refine HK.out.mono ?_
      rintro e w1 ⟨rfl, hb1⟩
      have HG1 := Lib.hid (HG.out.below hb1)
      go_wp2_with fail
      refine (HJ.out w1 HG1.out.ml).mono ?_
      rintro e w2 ⟨f, rfl, hf, hb2⟩
      have HF := Lib.hid hf
      have HG2 := Lib.hid (HG1.out.below hb2)
      clear hf
      go_wp2_with fail
      refine (HR.out w2).mono ?_
      rintro e w2 ⟨he2, rfl⟩
      obtain rfl : e = .returned (.tuple #[.int .i64 1, .int .i64 p]) := he2
      go_wp2_with fail
      refine (is_fault f p 90 90 _ HF.out).mono ?_
      rintro e w2 ⟨rfl, rfl⟩
      go_wp2_with fail
      refine (place_fault f p 90 _ HF.out HG2.out).mono ?_
      rintro e w4 ⟨rfl, hb4⟩
      go_wp2
      go_ret
      exact ⟨rfl, below_from (below_from hb1 hb2) hb4⟩
    | false =>
      have hj := joinB_root he (s := b)
      rw [hj] at hc
      have hr := fun W => rcheck_any (a ++ ⟨#[47]⟩ ++ b) W (by rw [join_size]; omega)
      rw [hc] at hr
      have HR := Lib.hid hr
      have HJ := Lib.hid hjn
      clear hc hr hjn hj
      go_enter Tryd.func10, Tryd.ntmps10
      go_wp2_with fail
      refine HK.out.mono ?_
      rintro e w1 ⟨rfl, hb1⟩
      have HG1 := Lib.hid (HG.out.below hb1)
      go_wp2_with fail
      refine (HJ.out w1 HG1.out.ml).mono ?_
      rintro e w2 ⟨f, rfl, hf, hb2⟩
      have HF := Lib.hid hf
      have HG2 := Lib.hid (HG1.out.below hb2)
      clear hf
      go_wp2_with fail
      refine (HR.out w2).mono ?_
      rintro e w2 ⟨he2, rfl⟩
      obtain rfl : e = .returned (.tuple #[.int .i64 1, .int .i64 p]) := he2
      go_wp2_with fail
      refine (is_fault f p 90 90 _ HF.out).mono ?_
      rintro e w2 ⟨rfl, rfl⟩
      go_wp2_with fail
      refine (place_fault f p 90 _ HF.out HG2.out).mono ?_
      rintro e w4 ⟨rfl, hb4⟩
      go_wp2
      go_ret
      exact ⟨rfl, below_from (below_from hb1 hb2) hb4⟩
set_option maxRecDepth 100000 in
set_option maxHeartbeats 1000000 in
theorem pathJoins_walk (a b : ByteArray) (w : World) (ha : a.size ≤ 140737488351232) (hb : b.size ≤ 140737488351232) (hg : Env w) : Calls Tryd.prog 10 #[.string a, .string b] w fun e w' => e = .returned (.bool true) ∧ Below w.heap.size w w' := by
  by_cases h1 : (200 : Int) < a.size
  · have HK := Lib.hid (checks_any w hg)
    clear hg
    go_enter Tryd.func10, Tryd.ntmps10
    go_wp2_with fail
    refine HK.out.mono ?_
    rintro e w1 ⟨rfl, hb1⟩
    go_wp2
    go_ret
    exact ⟨rfl, hb1⟩
  · by_cases h2 : (200 : Int) < b.size
    · have d1 : decide ((200 : Int) < a.size) = false := by simpa using h1
      have d2 : decide ((200 : Int) < b.size) = true := by simpa using h2
      have HK := Lib.hid (checks_any w hg)
      clear hg
      go_enter Tryd.func10, Tryd.ntmps10
      go_wp2_with fail
      refine HK.out.mono ?_
      rintro e w1 ⟨rfl, hb1⟩
      go_wp2
      go_ret
      exact ⟨rfl, hb1⟩
    · exact pathJoins_small a b w (by omega) (by omega) hg
end Go.Proofs.YtkhnfepnapgfaaaDoor
