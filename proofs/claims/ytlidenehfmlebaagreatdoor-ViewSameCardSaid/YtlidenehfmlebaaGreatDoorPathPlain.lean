/-
  Paths, in plain Lean: what path.Check, Join, Beneath, Clash come to, with no program in sight.
-/
import Derived.Lib.SplitLaws
set_option linter.unusedVariables false
set_option linter.unusedSimpArgs false
namespace Go.Proofs.YtlidenehfmlebaaGreatDoor

theorem size_len (s : ByteArray) : s.data.toList.length = s.size := rfl
/-- May a byte stand in a segment? -/
def signB (c : UInt8) : Bool := (97 ≤ c && c ≤ 122) || (48 ≤ c && c ≤ 57) || c == 95 || c == 45 || c == 46
/-- The first byte of a list, from place k on, that may not stand in a segment. -/
def badAt : Nat → List UInt8 → Option Nat
  | _, [] => none
  | k, c :: r => if signB c then badAt (k + 1) r else some k
/-- Is a segment none, whatever its bytes: empty, a dot, two dots, too long? -/
def segNo (p : List UInt8) : Bool := p.isEmpty || p == [46] || p == [46, 46] || decide (16 < p.length)
/-- The place of the first fault of segments, the i-th of which begins at a place. -/
def partsBad : Nat → Nat → List (List UInt8) → Option Nat
  | _, _, [] => none
  | i, at_, p :: ps =>
    if i = 6 then some at_ else if segNo p then some at_ else
      match badAt 0 p with
      | some k => some (at_ + k)
      | none => partsBad (i + 1) (at_ + (p.length + 1)) ps
/-- The bytes of a text between its slashes. -/
def segs (s : ByteArray) : List ByteArray := Lib.splitB ⟨#[47]⟩ 0 (Lib.countB s ⟨#[47]⟩) s
/-- path.Check: none: it is a path; else the place of the fault. -/
def checkB (s : ByteArray) : Option Nat :=
  if s.data.toList.isEmpty || decide (64 < s.size) then some (min s.size 64) else partsBad 0 0 ((segs s).map (·.data.toList))

/-! ### segments, on lists -/
def consHead (c : UInt8) : List (List UInt8) → List (List UInt8)
  | p :: ps => (c :: p) :: ps
  | [] => [[c]]
/-- The bytes between slashes. -/
def splitSlash : List UInt8 → List (List UInt8)
  | [] => [[]]
  | c :: r => if c = 47 then [] :: splitSlash r else consHead c (splitSlash r)
theorem splitK_ne (c : UInt8) (h : c ≠ 47) (r : List UInt8) (k : Nat) : Lib.splitK [47] 0 k (c :: r) = consHead c (Lib.splitK [47] 0 k r) := by
  cases k with
  | zero => rfl
  | succ k =>
    have hi : Lib.index (c :: r) [47] = if Lib.index r [47] == -1 then -1 else Lib.index r [47] + 1 := by
      have hf : ([47] : List UInt8).isPrefixOf (c :: r) = false := by
        simp [List.isPrefixOf]
        exact fun e => h e.symm
      rw [Lib.index, if_neg (by rw [hf]; simp)]
    have hg := Lib.index_ge r [47]
    by_cases hm : Lib.index r [47] = -1
    · have h1 : Lib.index (c :: r) [47] = -1 := by rw [hi, if_pos (by rw [hm]; rfl)]
      unfold Lib.splitK
      rw [if_pos (by rw [h1]; rfl), if_pos (by rw [hm]; rfl)]
      rfl
    · have h1 : Lib.index (c :: r) [47] = Lib.index r [47] + 1 := by rw [hi, if_neg (by simp [hm])]
      unfold Lib.splitK
      rw [if_neg (by rw [h1]; simp; omega), if_neg (by simp [hm]), h1]
      have e1 : (Lib.index r [47] + 1).toNat = (Lib.index r [47]).toNat + 1 := by omega
      rw [e1]
      rfl
theorem splitK_eq (k : Nat) (r : List UInt8) : Lib.splitK [47] 0 (k + 1) (47 :: r) = [] :: Lib.splitK [47] 0 k r := by
  have h1 : Lib.index (47 :: r) [47] = 0 := by simp [Lib.index, List.isPrefixOf]
  rw [Lib.splitK, if_neg (by rw [h1]; simp), h1]
  rfl
theorem split_eq : ∀ l : List UInt8, Lib.splitK [47] 0 (Lib.count l [47]) l = splitSlash l
  | [] => rfl
  | c :: r => by
    by_cases h : c = 47
    · subst h
      rw [Lib.count_cons_eq, Nat.add_comm, splitK_eq, split_eq r, splitSlash, if_pos rfl]
    · rw [Lib.count_cons_ne c 47 r h, splitK_ne c h, split_eq r, splitSlash, if_neg h]
theorem segs_list (s : ByteArray) : (segs s).map (·.data.toList) = splitSlash s.data.toList := by
  unfold segs
  rw [Lib.splitB_data]
  exact split_eq _
/-- The first segment. -/
def headSeg (l : List UInt8) : List UInt8 := l.takeWhile (· != 47)
theorem splitSlash_head : ∀ l : List UInt8, splitSlash l = headSeg l :: (if (headSeg l).length < l.length then splitSlash (l.drop ((headSeg l).length + 1)) else [])
  | [] => rfl
  | c :: r => by
    by_cases h : c = 47
    · subst h
      simp [splitSlash, headSeg]
    · rw [splitSlash, if_neg h, splitSlash_head r]
      have h1 : headSeg (c :: r) = c :: headSeg r := by simp [headSeg, List.takeWhile_cons, h]
      rw [h1]
      simp [consHead]
theorem headSeg_le (l : List UInt8) : (headSeg l).length ≤ l.length := by unfold headSeg; exact (List.takeWhile_prefix _).length_le
theorem headSeg_in : ∀ (l : List UInt8) (k : Nat) (h : k < (headSeg l).length) (h' : k < l.length), l[k] ≠ 47
  | c :: r, k, h, h' => by
    by_cases hc : c = 47
    · subst hc; simp [headSeg] at h
    · have h1 : headSeg (c :: r) = c :: headSeg r := by simp [headSeg, List.takeWhile_cons, hc]
      rw [h1] at h
      cases k with
      | zero => exact hc
      | succ k => exact headSeg_in r k (by simpa using h) (by simpa using h')
theorem headSeg_end : ∀ (l : List UInt8) (h : (headSeg l).length < l.length), l[(headSeg l).length] = 47
  | c :: r, h => by
    by_cases hc : c = 47
    · subst hc; simp [headSeg]
    · have h1 : headSeg (c :: r) = c :: headSeg r := by simp [headSeg, List.takeWhile_cons, hc]
      simp only [h1] at h ⊢
      exact headSeg_end r (by simpa using h)
/-- The segment that begins at a place. -/
def segB (s : ByteArray) (a : Nat) : ByteArray := s.extract a (a + (headSeg (s.data.toList.drop a)).length)
theorem headSeg_take : ∀ l : List UInt8, l.take (headSeg l).length = headSeg l
  | [] => rfl
  | c :: r => by
    by_cases hc : c = 47
    · subst hc; simp [headSeg]
    · have h1 : headSeg (c :: r) = c :: headSeg r := by simp [headSeg, List.takeWhile_cons, hc]
      rw [h1]; simp [headSeg_take r]
theorem segB_data (s : ByteArray) (a : Nat) : (segB s a).data.toList = headSeg (s.data.toList.drop a) := by
  unfold segB
  rw [Lib.extract_data, Nat.add_sub_cancel_left]
  exact headSeg_take _
theorem segB_size (s : ByteArray) (a : Nat) : (segB s a).size = (headSeg (s.data.toList.drop a)).length := by rw [← segB_data]; rfl
theorem checkB_slash (s : ByteArray) (h1 : 1 ≤ s.size) (h2 : s.size ≤ 64) : checkB s = partsBad 0 0 (splitSlash s.data.toList) := by
  rw [checkB, if_neg, segs_list]
  have : s.data.toList.isEmpty = false := by rw [← Bool.not_eq_true, List.isEmpty_iff_length_eq_zero, size_len]; omega
  simp [this]
  omega
end Go.Proofs.YtlidenehfmlebaaGreatDoor
