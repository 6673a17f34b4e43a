/-
  Beneath and Clash, in plain Lean.
-/
import Derived.Lib.SplitLaws
import Derived.Lib.IndexBytes
set_option linter.unusedVariables false
set_option linter.unusedSimpArgs false
namespace Go.Proofs.YtlidenehfmlebaaGreatDoor

/-! ### beneath, clash -/
/-- A text with a slash behind it. -/
def slash (a : ByteArray) : ByteArray := a ++ ⟨#[47]⟩
def hasP (s p : ByteArray) : Bool := Lib.hasPrefix s.data.toList p.data.toList
def clashB (a b : ByteArray) : Bool := hasP a (slash b) || hasP b (slash a)
def trimP (s p : ByteArray) : ByteArray := ⟨(Lib.trimPrefix s.data.toList p.data.toList).toArray⟩
/-- path.Beneath. -/
def beneathB (root s : ByteArray) : ByteArray × Bool :=
  if root.toList.isEmpty then (s, !s.toList.isEmpty) else (trimP s (slash root), hasP s (slash root) && !(trimP s (slash root)).toList.isEmpty)
theorem slash_size (a : ByteArray) : (slash a).size = a.size + 1 := by simp [slash, ByteArray.size_append]; rfl
theorem ba_ext {a b : ByteArray} (h : a.data.toList = b.data.toList) : a = b := by
  cases a; cases b; simp at h; simpa using h
theorem trimP_no {s p : ByteArray} (h : hasP s p = false) : trimP s p = s := by
  apply ba_ext
  simp [trimP, Lib.trimPrefix]
  unfold hasP at h
  simp [h]
theorem trimP_yes {s p : ByteArray} (h : hasP s p = true) : trimP s p = s.extract p.size s.size := by
  apply ba_ext
  rw [Lib.extract_to_end]
  simp [trimP, Lib.trimPrefix]
  unfold hasP at h
  simp [h]
theorem hasP_size {s p : ByteArray} (h : hasP s p = true) : p.size ≤ s.size := by
  have := Lib.hasPrefix_of_take s.data.toList p.data.toList
  unfold hasP at h
  rw [h] at this
  simp at this
  simpa using this.1
theorem clashB_comm (a b : ByteArray) : clashB a b = clashB b a := by unfold clashB; exact Bool.or_comm _ _
theorem slash_def (b : ByteArray) : b ++ (⟨#[47]⟩ : ByteArray) = slash b := rfl
theorem hasP_def (s p : ByteArray) : Lib.hasPrefix s.data.toList p.data.toList = hasP s p := rfl
theorem trimP_def (s p : ByteArray) : (⟨(Lib.trimPrefix s.data.toList p.data.toList).toArray⟩ : ByteArray) = trimP s p := rfl
end Go.Proofs.YtlidenehfmlebaaGreatDoor
