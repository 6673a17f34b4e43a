/-
  When a text is a path, in plain Lean.
-/
import Derived.Test.YtddnfooachibiaaGreatDoorPathPlain
import Derived.Test.YtddnfooachibiaaGreatDoorPathPlain2
set_option linter.unusedVariables false
set_option linter.unusedSimpArgs false
namespace Go.Proofs.YtddnfooachibiaaGreatDoor

/-- May a segment be? -/
def okSeg (p : List UInt8) : Prop := segNo p = false ∧ badAt 0 p = none
theorem partsBad_iff : ∀ (ps : List (List UInt8)) (k a : Nat), k ≤ 6 → (partsBad k a ps = none ↔ k + ps.length ≤ 6 ∧ ∀ p ∈ ps, okSeg p)
  | [], k, a, hk => by simp [partsBad, hk]
  | p :: ps, k, a, hk => by
    by_cases h6 : k = 6
    · subst h6
      simp [partsBad]
      intro h
      omega
    · cases hs : segNo p with
      | true => simp [partsBad, h6, hs, okSeg]
      | false =>
        cases hb : badAt 0 p with
        | some j => simp [partsBad, h6, hs, hb, okSeg]
        | none =>
          have h1 : partsBad k a (p :: ps) = partsBad (k + 1) (a + (p.length + 1)) ps := by simp [partsBad, h6, hs, hb]
          rw [h1, partsBad_iff ps (k + 1) _ (by omega)]
          simp only [List.length_cons, List.mem_cons, forall_eq_or_imp]
          constructor
          · rintro ⟨x, y⟩
            exact ⟨by omega, ⟨hs, hb⟩, y⟩
          · rintro ⟨x, _, y⟩
            exact ⟨by omega, y⟩
theorem checkB_none (s : ByteArray) : checkB s = none ↔ 1 ≤ s.size ∧ s.size ≤ 64 ∧ (splitSlash s.data.toList).length ≤ 6 ∧ ∀ p ∈ splitSlash s.data.toList, okSeg p := by
  by_cases h1 : 1 ≤ s.size
  · by_cases h2 : s.size ≤ 64
    · rw [checkB_slash s h1 h2, partsBad_iff _ _ _ (by omega)]
      simp [h1, h2]
    · have : checkB s = some (min s.size 64) := by rw [checkB, if_pos]; simp; omega
      simp [this, h2]
  · have h0 : s.size = 0 := by omega
    have : checkB s = some (min s.size 64) := by
      rw [checkB, if_pos]
      have : s.data.toList.length = 0 := h0
      simp [List.isEmpty_iff_length_eq_zero.2 this]
    simp [this, h0]
theorem splitSlash_ne : ∀ l : List UInt8, splitSlash l ≠ []
  | [] => by simp [splitSlash]
  | c :: r => by
    unfold splitSlash
    split
    · simp
    · unfold consHead; split <;> simp
theorem splitSlash_append (a b : List UInt8) : splitSlash (a ++ 47 :: b) = splitSlash a ++ splitSlash b := by
  induction a with
  | nil => simp [splitSlash]
  | cons c r ih =>
    by_cases h : c = 47
    · subst h
      simp [splitSlash, ih]
    · simp only [List.cons_append]
      rw [splitSlash, if_neg h, ih, splitSlash, if_neg h]
      have hn := splitSlash_ne r
      cases hr : splitSlash r with
      | nil => exact absurd hr hn
      | cons p ps => simp [consHead]
theorem okSeg_ne {p : List UInt8} (h : okSeg p) : p ≠ [] ∧ p ≠ [46] ∧ p ≠ [46, 46] := by
  refine ⟨?_, ?_, ?_⟩ <;> (rintro rfl; exact absurd h.1 (by decide))
/-- A text with a segment that may not be is none. -/
theorem not_path_of {s : ByteArray} {p : List UInt8} (hp : p ∈ splitSlash s.data.toList) (hn : segNo p = true) : ∃ q, checkB s = some q := by
  cases h : checkB s with
  | some q => exact ⟨q, rfl⟩
  | none =>
    have := ((checkB_none s).1 h).2.2.2 p hp
    rw [this.1] at hn
    cases hn
/-- The text of a path up to a slash is a path. -/
theorem path_short {s : ByteArray} {i : Nat} (h : checkB s = none) (hi : i < s.size) (h47 : s[i] = 47) : checkB (s.extract 0 i) = none := by
  have hs := (checkB_none s).1 h
  have hd : (s.extract 0 i).data.toList = s.data.toList.take i := by rw [Lib.extract_data]; simp
  have hl : s.data.toList = s.data.toList.take i ++ 47 :: s.data.toList.drop (i + 1) := by
    have : s.data.toList[i]'hi = 47 := h47
    rw [← this, ← List.drop_eq_getElem_cons, List.take_append_drop]
  have hz : (s.extract 0 i).size = i := by rw [← size_len, hd, List.length_take, size_len]; omega
  rw [hl, splitSlash_append] at hs
  obtain ⟨h1, h2, h3, h4⟩ := hs
  rw [checkB_none, hd, hz]
  refine ⟨?_, by omega, by simp at h3; omega, fun p hp => h4 p (List.mem_append_left _ hp)⟩
  rcases Nat.eq_zero_or_pos i with h0 | h0
  · subst h0
    have := h4 [] (List.mem_append_left _ (by simp [splitSlash]))
    exact absurd this.1 (by decide)
  · exact h0
theorem app_data (a b : ByteArray) : (a ++ b).data.toList = a.data.toList ++ b.data.toList := by simp
/-- A path beneath a root. -/
def joinB (root s : ByteArray) : ByteArray := if root.toList.isEmpty then s else root ++ ⟨#[47]⟩ ++ s
theorem joinB_empty {root s : ByteArray} (h : root.toList.isEmpty = true) : joinB root s = s := by rw [joinB, if_pos h]
theorem joinB_root {root s : ByteArray} (h : root.toList.isEmpty = false) : joinB root s = root ++ ⟨#[47]⟩ ++ s := by rw [joinB, if_neg (by simp [h])]
theorem join_data (root s : ByteArray) : (root ++ (⟨#[47]⟩ : ByteArray) ++ s).data.toList = root.data.toList ++ 47 :: s.data.toList := by rw [app_data, app_data]; simp
theorem join_hasP (root s : ByteArray) : hasP (root ++ ⟨#[47]⟩ ++ s) (slash root) = true := by
  unfold hasP Lib.hasPrefix
  rw [List.isPrefixOf_iff_prefix, app_data]
  exact List.prefix_append _ _
theorem join_trim (root s : ByteArray) : trimP (root ++ ⟨#[47]⟩ ++ s) (slash root) = s := by
  apply ba_ext
  rw [trimP_yes (join_hasP root s), Lib.extract_to_end, app_data]
  have : (slash root).size = (root ++ (⟨#[47]⟩ : ByteArray)).data.toList.length := rfl
  rw [this, List.drop_left]
/-- What is joined is beneath. -/
theorem join_beneath {root s : ByteArray} (h : checkB (joinB root s) = none) : beneathB root (joinB root s) = (s, true) := by
  have hs := (checkB_none _).1 h
  cases he : root.toList.isEmpty with
  | true =>
    rw [joinB_empty he] at hs ⊢
    rw [beneathB, if_pos he]
    have : s.toList.isEmpty = false := by rw [ByteArray.toList_eq, ← Bool.not_eq_true, List.isEmpty_iff_length_eq_zero, size_len]; omega
    rw [this]; rfl
  | false =>
    rw [joinB_root he] at hs ⊢
    rw [beneathB, if_neg (by simp [he]), join_trim, join_hasP]
    have : s.toList.isEmpty = false := by
      rw [ByteArray.toList_eq, ← Bool.not_eq_true, List.isEmpty_iff]
      intro e
      have := hs.2.2.2 [] (by rw [join_data, splitSlash_append, e]; simp [splitSlash])
      exact absurd this.1 (by decide)
    rw [this]; rfl
theorem join_size (root s : ByteArray) : (root ++ (⟨#[47]⟩ : ByteArray) ++ s).size = root.size + 1 + s.size := by rw [ByteArray.size_append, ByteArray.size_append]; rfl
/-! ### what is none -/
theorem bad_front (p : List UInt8) (hn : segNo p = true) (h47 : splitSlash p = [p]) {x s : ByteArray} (hx : x.data.toList = p ++ 47 :: s.data.toList) : ∃ q, checkB x = some q :=
  not_path_of (p := p) (by rw [hx, splitSlash_append, h47]; simp) hn
theorem bad_back (p : List UInt8) (hn : segNo p = true) (h47 : splitSlash p = [p]) {x s : ByteArray} (hx : x.data.toList = s.data.toList ++ 47 :: p) : ∃ q, checkB x = some q :=
  not_path_of (p := p) (by rw [hx, splitSlash_append, h47]; simp) hn
end Go.Proofs.YtddnfooachibiaaGreatDoor
