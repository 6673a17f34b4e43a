/-
  path.Clash and path.Beneath, and the reference's: what they come to.
-/
import Derived.Test.YtlidenehfmlebaaGreatDoorProg
import Derived.Test.YtlidenehfmlebaaGreatDoorPathPlain2
import Derived.Deep.RegionWith
import Derived.Test.YtlidenehfmlebaaGreatDoorShelf
import Derived.WalkKit
import Derived.Outline
import Derived.LaidEql
import Derived.Below
import Derived.WalkLawsBesides
import Derived.WalkSpells
import Derived.Deep.QuietTactic
import Derived.BigQuiet
import Derived.Deep.LoopGhost
import Derived.Lib.Hide
set_option linter.unusedVariables false
set_option linter.unusedSimpArgs false
namespace Go.Proofs.YtlidenehfmlebaaGreatDoor
open Go.RowKit

theorem hasPrefix_slash (a b : ByteArray) (w : World) : Calls Tryz.prog 126 #[.string a, .string (b ++ ⟨#[47]⟩)] w fun e w' => e = .returned (.bool (hasP a (slash b))) ∧ w' = w := by
  rw [slash_def, ← hasP_def]
  exact Tryz.strings_HasPrefix a (slash b) w
theorem cutPrefix_slash (a b : ByteArray) (w : World) : Calls Tryz.prog 71 #[.string a, .string (b ++ ⟨#[47]⟩)] w fun e w' => e = .returned (.tuple #[.string (trimP a (slash b)), .bool (hasP a (slash b))]) ∧ w' = w := by
  rw [slash_def, ← hasP_def, ← trimP_def]
  exact Tryz.strings_CutPrefix a (slash b) w
set_option maxRecDepth 100000 in
set_option maxHeartbeats 1000000 in
/-- path.Clash. -/
theorem clash_any (a b : ByteArray) (w : World) (ha : a.size ≤ 140737488351232) (hb : b.size ≤ 140737488351232) : Calls Tryz.prog 88 #[.string a, .string b] w fun e w' => e = .returned (.bool (clashB a b)) ∧ w' = w := by
  have H1 := Lib.hid (hasPrefix_slash a b)
  have H2 := Lib.hid (hasPrefix_slash b a)
  have s1 : a.size + 1 ≤ 9223372036854775807 := by omega
  have s2 : b.size + 1 ≤ 9223372036854775807 := by omega
  cases h1 : hasP a (slash b) with
  | true =>
    have hr : clashB a b = true := by rw [clashB, h1]; rfl
    rw [hr]
    clear hr
    go_enter Tryz.func88, Tryz.ntmps88
    go_wp2_with fail
    refine (H1.out _).mono ?_
    rintro e w' ⟨rfl, rfl⟩
    go_wp2
    go_ret
    exact ⟨rfl, rfl⟩
  | false =>
    have hr : clashB a b = hasP b (slash a) := by rw [clashB, h1]; rfl
    rw [hr]
    clear hr
    go_enter Tryz.func88, Tryz.ntmps88
    go_wp2_with fail
    refine (H1.out _).mono ?_
    rintro e w' ⟨rfl, rfl⟩
    go_wp2_with fail
    refine (H2.out _).mono ?_
    rintro e w' ⟨rfl, rfl⟩
    go_wp2
    go_ret
    exact ⟨rfl, rfl⟩
set_option maxRecDepth 100000 in
set_option maxHeartbeats 1000000 in
/-- path.Beneath. -/
theorem beneath_any (a b : ByteArray) (w : World) (ha : a.size ≤ 140737488351232) : Calls Tryz.prog 48 #[.string a, .string b] w fun e w' => e = .returned (.tuple #[.string (beneathB a b).1, .bool (beneathB a b).2]) ∧ w' = w := by
  have s1 : a.size + 1 ≤ 9223372036854775807 := by omega
  have H1 := Lib.hid (cutPrefix_slash b a)
  cases he : a.toList.isEmpty with
  | true =>
    have hr : beneathB a b = (b, !b.toList.isEmpty) := by rw [beneathB, if_pos he]
    rw [hr]
    clear hr
    go_enter Tryz.func48, Tryz.ntmps48
    go_wp2
    go_ret2
    exact ⟨rfl, rfl⟩
  | false =>
    have hr : beneathB a b = (trimP b (slash a), hasP b (slash a) && !(trimP b (slash a)).toList.isEmpty) := by rw [beneathB, if_neg (by simp [he])]
    rw [hr]
    clear hr
    cases h1 : hasP b (slash a) with
    | true =>
      go_enter Tryz.func48, Tryz.ntmps48
      go_wp2_with fail
      refine (H1.out _).mono ?_
      rintro e w' ⟨rfl, rfl⟩
      go_wp2
      go_ret2
      exact ⟨rfl, rfl⟩
    | false =>
      go_enter Tryz.func48, Tryz.ntmps48
      go_wp2_with fail
      refine (H1.out _).mono ?_
      rintro e w' ⟨rfl, rfl⟩
      go_wp2
      go_ret2
      exact ⟨rfl, rfl⟩
set_option maxRecDepth 100000 in
set_option maxHeartbeats 1000000 in
/-- The reference's begins. -/
theorem begins_any (s p : ByteArray) (w : World) : Calls Tryz.prog 86 #[.string s, .string p] w fun e w' => e = .returned (.bool (hasP s p)) ∧ w' = w := by
  have hr : (decide (p.size ≤ s.size) && ((s.extract 0 p.size).toList == p.toList)) = hasP s p := Lib.hasPrefix_raw s p
  have HR := Lib.hid hr
  clear hr
  by_cases h : p.size ≤ s.size
  · have h1 : decide (p.size ≤ s.size) = true := by simp [h]
    go_enter Tryz.func86, Tryz.ntmps86
    go_wp2
    go_ret
    exact ⟨by rw [← HR.out, h1]; rfl, rfl⟩
  · have h1 : decide (p.size ≤ s.size) = false := by simp; omega
    have h2 : s.size < p.size := by omega
    have H1 := Lib.hid h1
    clear h h1
    go_enter Tryz.func86, Tryz.ntmps86
    go_wp2
    go_ret
    exact ⟨by rw [← HR.out, H1.out]; rfl, rfl⟩
theorem begins_slash (a b : ByteArray) (w : World) : Calls Tryz.prog 86 #[.string a, .string (b ++ ⟨#[47]⟩)] w fun e w' => e = .returned (.bool (hasP a (slash b))) ∧ w' = w := by
  rw [slash_def]
  exact begins_any a (slash b) w
set_option maxRecDepth 100000 in
set_option maxHeartbeats 1000000 in
/-- The reference's Clash. -/
theorem rclash_any (a b : ByteArray) (w : World) (ha : a.size ≤ 140737488351232) (hb : b.size ≤ 140737488351232) : Calls Tryz.prog 78 #[.string a, .string b] w fun e w' => e = .returned (.bool (clashB a b)) ∧ w' = w := by
  have H1 := Lib.hid (begins_slash a b)
  have H2 := Lib.hid (begins_slash b a)
  have s1 : a.size + 1 ≤ 9223372036854775807 := by omega
  have s2 : b.size + 1 ≤ 9223372036854775807 := by omega
  cases h1 : hasP a (slash b) with
  | true =>
    have hr : clashB a b = true := by rw [clashB, h1]; rfl
    rw [hr]
    clear hr
    go_enter Tryz.func78, Tryz.ntmps78
    go_wp2_with fail
    refine (H1.out _).mono ?_
    rintro e w' ⟨rfl, rfl⟩
    go_wp2
    go_ret
    exact ⟨rfl, rfl⟩
  | false =>
    have hr : clashB a b = hasP b (slash a) := by rw [clashB, h1]; rfl
    rw [hr]
    clear hr
    go_enter Tryz.func78, Tryz.ntmps78
    go_wp2_with fail
    refine (H1.out _).mono ?_
    rintro e w' ⟨rfl, rfl⟩
    go_wp2_with fail
    refine (H2.out _).mono ?_
    rintro e w' ⟨rfl, rfl⟩
    go_wp2
    go_ret
    exact ⟨rfl, rfl⟩
end Go.Proofs.YtlidenehfmlebaaGreatDoor
