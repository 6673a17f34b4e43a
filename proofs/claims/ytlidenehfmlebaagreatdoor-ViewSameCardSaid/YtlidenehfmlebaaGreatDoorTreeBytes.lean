/-
  (*Tree).Bytes.
-/
import Derived.Test.YtlidenehfmlebaaGreatDoorTreeAllW
set_option linter.unusedVariables false
set_option linter.unusedSimpArgs false
namespace Go.Proofs.YtlidenehfmlebaaGreatDoor
open Go.RowKit Go.Maps Go.WideMaps Go.WideAt
theorem lenAt_le {w : World} {base g b now : Nat} {F : List FileS} (h : TreeAt w base g b now F) (v : Int) (p : ByteArray) : lenAt F v p ≤ 300000 := by
  unfold lenAt
  cases hr : atRow F v p with
  | none => simp
  | some r => exact (h.data hr).2.2
theorem at_len {w : World} {base g b now : Nat} {F : List FileS} (h : TreeAt w base g b now F) (v : Int) (p : ByteArray) : ∃ A c u, atV (atRow F v p) = .tuple #[.slice A (lenAt F v p) c, u] := by
  unfold lenAt
  cases hr : atRow F v p with
  | none => exact ⟨_, _, _, rfl⟩
  | some r =>
    obtain ⟨A, c, e, _⟩ := own_bytes (h.data hr).1
    exact ⟨A, c, _, by rw [atV, e]⟩
theorem read_len {now : Nat} {F : List FileS} {v : Int} {p : ByteArray} {d : List Int} (h : readT now F v p = (d, 0)) : lenAt F v p = d.length := by
  unfold readT at h
  split at h
  · cases h
  · unfold lenAt
    cases hr : atRow F v p with
    | none => rw [hr] at h; cases h
    | some r =>
      rw [hr] at h
      simp only at h
      split at h
      · cases h
      · injection h with h _
        rw [← h]
theorem read_zero {now : Nat} {F : List FileS} {v : Int} {p : ByteArray} (h0 : 0 ≤ v) (h1 : v ≤ now) : (thereB F v p = true → ∃ d, readT now F v p = (d, 0)) ∧ (thereB F v p = false → readT now F v p = ([], 4)) := by
  rw [readT, if_neg (by omega)]
  unfold thereB
  cases hr : atRow F v p with
  | none => exact And.intro (fun h => by cases h) (fun _ => rfl)
  | some r =>
    cases hg : r.gone with
    | true => exact And.intro (fun h => by simp [hg] at h) (fun _ => by simp [hg])
    | false => exact And.intro (fun _ => ⟨r.data, by simp [hg]⟩) (fun h => by simp [hg] at h)
end Go.Proofs.YtlidenehfmlebaaGreatDoor
