/-
  conf: lines and blanks, in plain Lean.
-/
import Derived.Test.YtddnfooachibiaaGreatDoorConfPlain
import Derived.Lib.CutLaws
set_option linter.unusedVariables false
set_option linter.unusedSimpArgs false
namespace Go.Proofs.YtddnfooachibiaaGreatDoor
open Go
theorem lineK_ne (c : UInt8) (h : c ≠ 10) (r : List UInt8) (k : Nat) : Lib.splitK [10] 0 k (c :: r) = (match Lib.splitK [10] 0 k r with
    | [] => [[c]]
    | h :: t => (c :: h) :: t) := by
  cases k with
  | zero => rfl
  | succ k =>
    have hi : Lib.index (c :: r) [10] = if Lib.index r [10] == -1 then -1 else Lib.index r [10] + 1 := by
      have hf : ([10] : List UInt8).isPrefixOf (c :: r) = false := by
        simp [List.isPrefixOf]
        exact fun e => h e.symm
      rw [Lib.index, if_neg (by rw [hf]; simp)]
    have hg := Lib.index_ge r [10]
    by_cases hm : Lib.index r [10] = -1
    · have h1 : Lib.index (c :: r) [10] = -1 := by rw [hi, if_pos (by rw [hm]; rfl)]
      unfold Lib.splitK
      rw [if_pos (by rw [h1]; rfl), if_pos (by rw [hm]; rfl)]
    · have h1 : Lib.index (c :: r) [10] = Lib.index r [10] + 1 := by rw [hi, if_neg (by simp [hm])]
      unfold Lib.splitK
      rw [if_neg (by rw [h1]; simp; omega), if_neg (by simp [hm]), h1]
      have e1 : (Lib.index r [10] + 1).toNat = (Lib.index r [10]).toNat + 1 := by omega
      rw [e1]
      rfl
theorem lineK_eq (k : Nat) (r : List UInt8) : Lib.splitK [10] 0 (k + 1) (10 :: r) = [] :: Lib.splitK [10] 0 k r := by
  have h1 : Lib.index (10 :: r) [10] = 0 := by simp [Lib.index, List.isPrefixOf]
  rw [Lib.splitK, if_neg (by rw [h1]; simp), h1]
  rfl
theorem lineK_all : ∀ l : List UInt8, Lib.splitK [10] 0 (Lib.count l [10]) l = linesL l
  | [] => rfl
  | c :: r => by
    by_cases h : c = 10
    · subst h
      rw [Lib.count_cons_eq, Nat.add_comm, lineK_eq, lineK_all r, linesL, if_pos rfl]
    · rw [Lib.count_cons_ne c 10 r h, lineK_ne c h, lineK_all r, linesL, if_neg h]
      cases linesL r <;> rfl
theorem map_bA : ∀ {l : List ByteArray} {L : List (List UInt8)}, l.map (·.data.toList) = L → l = L.map bA
  | [], L, h => by subst h; rfl
  | a :: t, L, h => by
    subst h
    rw [List.map_cons, List.map_cons, bA_self, ← map_bA (l := t) rfl]
/-- strings.Split at the line's end. -/
theorem lines_of (s : ByteArray) : Lib.splitB ⟨#[10]⟩ 0 (Lib.countB s ⟨#[10]⟩) s = (linesL s.data.toList).map bA := by
  refine map_bA ?_
  rw [Lib.splitB_data]
  exact lineK_all _
theorem lines_len (s : ByteArray) : Lib.countB s ⟨#[10]⟩ + 1 = (linesL s.data.toList).length := by
  have h := congrArg List.length (lines_of s)
  rw [List.length_map] at h
  rw [← h, Lib.splitB_all ⟨#[10]⟩ (by decide) 0 _ s rfl]
theorem trim_parts {l : List UInt8} (h : Lib.trimB l 32 = l) : Lib.trimRightB l 32 = l ∧ Lib.trimLeftB l 32 = l := by
  have h1 : (Lib.trimRightB l 32).length ≤ l.length := by
    have := (List.dropWhile_suffix (· == (32 : UInt8)) (l := l.reverse)).length_le
    simpa [Lib.trimRightB] using this
  have h2 : (Lib.trimLeftB (Lib.trimRightB l 32) 32).length ≤ (Lib.trimRightB l 32).length := (List.dropWhile_suffix (· == (32 : UInt8)) (l := Lib.trimRightB l 32)).length_le
  have h3 : Lib.trimRightB l 32 <+: l := by
    have := List.dropWhile_suffix (· == (32 : UInt8)) (l := l.reverse)
    have := List.reverse_prefix.2 this
    rw [List.reverse_reverse] at this
    exact this
  have h4 : Lib.trimRightB l 32 = l := h3.eq_of_length (by
    have : (Lib.trimLeftB (Lib.trimRightB l 32) 32).length = l.length := congrArg List.length h
    omega)
  refine ⟨h4, ?_⟩
  have h' : Lib.trimLeftB (Lib.trimRightB l 32) 32 = l := h
  rw [h4] at h'
  exact h'
theorem trimB_again (l : List UInt8) : Lib.trimB (Lib.trimB l 32) 32 = Lib.trimB l 32 := by
  have hR : ∀ x : List UInt8, Lib.trimRightB (Lib.trimRightB x 32) 32 = Lib.trimRightB x 32 := fun x => by
    simp only [Lib.trimRightB, List.reverse_reverse]
    congr 1
    generalize x.reverse = y
    induction y with
    | nil => rfl
    | cons a t ih =>
      rw [List.dropWhile_cons]
      split
      · exact ih
      · rename_i hn
        rw [List.dropWhile_cons, if_neg hn]
  have hL : ∀ x : List UInt8, Lib.trimLeftB (Lib.trimLeftB x 32) 32 = Lib.trimLeftB x 32 := fun x => by
    unfold Lib.trimLeftB
    induction x with
    | nil => rfl
    | cons a t ih =>
      rw [List.dropWhile_cons]
      split
      · exact ih
      · rename_i hn
        rw [List.dropWhile_cons, if_neg hn]
  have hS : ∀ x : List UInt8, Lib.trimRightB x 32 = x → Lib.trimRightB (Lib.trimLeftB x 32) 32 = Lib.trimLeftB x 32 := fun x hx => by
    obtain ⟨p, hp⟩ := List.dropWhile_suffix (· == (32 : UInt8)) (l := x)
    have hy : ∀ y : List UInt8, y <:+ x → Lib.trimRightB y 32 = y := fun y ⟨q, hq⟩ => by
      unfold Lib.trimRightB at hx ⊢
      rw [← hq, List.reverse_append] at hx
      cases hr : y.reverse with
      | nil => rw [List.reverse_eq_nil_iff] at hr; subst hr; rfl
      | cons a t =>
        rw [hr, List.cons_append, List.dropWhile_cons] at hx
        by_cases ha : (a == (32 : UInt8)) = true
        · rw [if_pos ha] at hx
          have h1 := congrArg List.length hx
          have h2 := (List.dropWhile_suffix (· == (32 : UInt8)) (l := t ++ q.reverse)).length_le
          have h3 := congrArg List.length hr
          simp only [List.length_reverse, List.length_append, List.length_cons] at h1 h2 h3
          omega
        · rw [List.dropWhile_cons, if_neg ha, ← hr, List.reverse_reverse]
    exact hy _ ⟨p, hp⟩
  show Lib.trimLeftB (Lib.trimRightB (Lib.trimLeftB (Lib.trimRightB l 32) 32) 32) 32 = _
  rw [hS _ (hR l), hL]
  rfl
theorem right_suffix {l y : List UInt8} (h : Lib.trimRightB l 32 = l) (hy : y <:+ l) : Lib.trimRightB y 32 = y := by
  obtain ⟨q, hq⟩ := hy
  unfold Lib.trimRightB at h ⊢
  rw [← hq, List.reverse_append] at h
  cases hr : y.reverse with
  | nil => rw [List.reverse_eq_nil_iff] at hr; subst hr; rfl
  | cons a t =>
    rw [hr, List.cons_append, List.dropWhile_cons] at h
    by_cases ha : (a == (32 : UInt8)) = true
    · rw [if_pos ha] at h
      have h1 := congrArg List.length h
      have h2 := (List.dropWhile_suffix (· == (32 : UInt8)) (l := t ++ q.reverse)).length_le
      have h3 := congrArg List.length hr
      simp only [List.length_reverse, List.length_append, List.length_cons] at h1 h2 h3
      omega
    · rw [List.dropWhile_cons, if_neg ha, ← hr, List.reverse_reverse]
theorem left_prefix {l y : List UInt8} (h : Lib.trimLeftB l 32 = l) (hy : y <+: l) : Lib.trimLeftB y 32 = y := by
  obtain ⟨q, hq⟩ := hy
  unfold Lib.trimLeftB at h ⊢
  cases y with
  | nil => rfl
  | cons a t =>
    rw [← hq, List.cons_append, List.dropWhile_cons] at h
    by_cases ha : (a == (32 : UInt8)) = true
    · rw [if_pos ha] at h
      have h1 := congrArg List.length h
      have h2 := (List.dropWhile_suffix (· == (32 : UInt8)) (l := t ++ q)).length_le
      simp only [List.length_append, List.length_cons] at h1 h2
      omega
    · rw [List.dropWhile_cons, if_neg ha]
theorem right_prefix (y : List UInt8) : Lib.trimRightB y 32 <+: y := by
  have := List.reverse_prefix.2 (List.dropWhile_suffix (· == (32 : UInt8)) (l := y.reverse))
  rw [List.reverse_reverse] at this
  exact this
theorem cut_prefix (l sep : List UInt8) : (Lib.cut l sep).1 <+: l := by
  unfold Lib.cut
  split
  · exact List.take_prefix _ _
  · exact List.prefix_refl _
theorem cut_suffix (l sep : List UInt8) : (Lib.cut l sep).2.1 <:+ l := by
  unfold Lib.cut
  split
  · exact List.drop_suffix _ _
  · exact List.nil_suffix
/-- The reference trims a key on both sides: of a line without blanks at its ends that is the same. -/
theorem key_trim {l : List UInt8} (h : Lib.trimB l 32 = l) : Lib.trimB (Lib.cut l [61]).1 32 = Lib.trimRightB (Lib.cut l [61]).1 32 :=
  left_prefix (trim_parts h).2 ((right_prefix _).trans (cut_prefix l [61]))
theorem val_trim {l : List UInt8} (h : Lib.trimB l 32 = l) : Lib.trimB (Lib.cut l [61]).2.1 32 = Lib.trimLeftB (Lib.cut l [61]).2.1 32 := by
  show Lib.trimLeftB (Lib.trimRightB (Lib.cut l [61]).2.1 32) 32 = _
  rw [right_suffix (trim_parts h).1 (cut_suffix l [61])]
end Go.Proofs.YtddnfooachibiaaGreatDoor
