/-
  path.Clash and path.Beneath, and the reference's: what they come to.
-/
import Derived.Test.YtddnfooachibiaaGreatDoorProg
import Derived.Test.YtddnfooachibiaaGreatDoorPathPlain2
import Derived.Deep.RegionWith
import Derived.Test.YtddnfooachibiaaGreatDoorShelf
import Derived.WalkKit
import Derived.Outline
import Derived.LaidEql
import Derived.Below
import Derived.WalkLawsBesides
import Derived.WalkSpells
import Derived.Deep.QuietTactic
import Derived.BigQuiet
import Derived.Deep.LoopGhost
import Derived.Lib.Hide
set_option linter.unusedVariables false
set_option linter.unusedSimpArgs false
namespace Go.Proofs.YtddnfooachibiaaGreatDoor
open Go.RowKit

theorem hasPrefix_slash (a b : ByteArray) (w : World) : Calls Tryz.prog 63 #[.string a, .string (b ++ ⟨#[47]⟩)] w fun e w' => e = .returned (.bool (hasP a (slash b))) ∧ w' = w := by
  rw [slash_def, ← hasP_def]
  exact Tryz.strings_HasPrefix a (slash b) w
set_option maxRecDepth 100000 in
set_option maxHeartbeats 1000000 in
/-- path.Clash. -/
theorem clash_any (a b : ByteArray) (w : World) (ha : a.size ≤ 140737488351232) (hb : b.size ≤ 140737488351232) : Calls Tryz.prog 36 #[.string a, .string b] w fun e w' => e = .returned (.bool (clashB a b)) ∧ w' = w := by
  have H1 := Lib.hid (hasPrefix_slash a b)
  have H2 := Lib.hid (hasPrefix_slash b a)
  have s1 : a.size + 1 ≤ 9223372036854775807 := by omega
  have s2 : b.size + 1 ≤ 9223372036854775807 := by omega
  cases h1 : hasP a (slash b) with
  | true =>
    have hr : clashB a b = true := by rw [clashB, h1]; rfl
    rw [hr]
    clear hr
    go_enter Tryz.func36, Tryz.ntmps36
    go_wp2_with fail
    refine (H1.out _).mono ?_
    rintro e w' ⟨rfl, rfl⟩
    go_wp2
    go_ret
    exact ⟨rfl, rfl⟩
  | false =>
    have hr : clashB a b = hasP b (slash a) := by rw [clashB, h1]; rfl
    rw [hr]
    clear hr
    go_enter Tryz.func36, Tryz.ntmps36
    go_wp2_with fail
    refine (H1.out _).mono ?_
    rintro e w' ⟨rfl, rfl⟩
    go_wp2_with fail
    refine (H2.out _).mono ?_
    rintro e w' ⟨rfl, rfl⟩
    go_wp2
    go_ret
    exact ⟨rfl, rfl⟩
set_option maxRecDepth 100000 in
set_option maxHeartbeats 1000000 in
/-- The reference's begins. -/
theorem begins_any (s p : ByteArray) (w : World) : Calls Tryz.prog 62 #[.string s, .string p] w fun e w' => e = .returned (.bool (hasP s p)) ∧ w' = w := by
  have hr : (decide (p.size ≤ s.size) && ((s.extract 0 p.size).toList == p.toList)) = hasP s p := Lib.hasPrefix_raw s p
  have HR := Lib.hid hr
  clear hr
  by_cases h : p.size ≤ s.size
  · have h1 : decide (p.size ≤ s.size) = true := by simp [h]
    go_enter Tryz.func62, Tryz.ntmps62
    go_wp2
    go_ret
    exact ⟨by rw [← HR.out, h1]; rfl, rfl⟩
  · have h1 : decide (p.size ≤ s.size) = false := by simp; omega
    have h2 : s.size < p.size := by omega
    have H1 := Lib.hid h1
    clear h h1
    go_enter Tryz.func62, Tryz.ntmps62
    go_wp2
    go_ret
    exact ⟨by rw [← HR.out, H1.out]; rfl, rfl⟩
theorem begins_slash (a b : ByteArray) (w : World) : Calls Tryz.prog 62 #[.string a, .string (b ++ ⟨#[47]⟩)] w fun e w' => e = .returned (.bool (hasP a (slash b))) ∧ w' = w := by
  rw [slash_def]
  exact begins_any a (slash b) w
set_option maxRecDepth 100000 in
set_option maxHeartbeats 1000000 in
/-- The reference's Clash. -/
theorem rclash_any (a b : ByteArray) (w : World) (ha : a.size ≤ 140737488351232) (hb : b.size ≤ 140737488351232) : Calls Tryz.prog 35 #[.string a, .string b] w fun e w' => e = .returned (.bool (clashB a b)) ∧ w' = w := by
  have H1 := Lib.hid (begins_slash a b)
  have H2 := Lib.hid (begins_slash b a)
  have s1 : a.size + 1 ≤ 9223372036854775807 := by omega
  have s2 : b.size + 1 ≤ 9223372036854775807 := by omega
  cases h1 : hasP a (slash b) with
  | true =>
    have hr : clashB a b = true := by rw [clashB, h1]; rfl
    rw [hr]
    clear hr
    go_enter Tryz.func35, Tryz.ntmps35
    go_wp2_with fail
    refine (H1.out _).mono ?_
    rintro e w' ⟨rfl, rfl⟩
    go_wp2
    go_ret
    exact ⟨rfl, rfl⟩
  | false =>
    have hr : clashB a b = hasP b (slash a) := by rw [clashB, h1]; rfl
    rw [hr]
    clear hr
    go_enter Tryz.func35, Tryz.ntmps35
    go_wp2_with fail
    refine (H1.out _).mono ?_
    rintro e w' ⟨rfl, rfl⟩
    go_wp2_with fail
    refine (H2.out _).mono ?_
    rintro e w' ⟨rfl, rfl⟩
    go_wp2
    go_ret
    exact ⟨rfl, rfl⟩
end Go.Proofs.YtddnfooachibiaaGreatDoor
