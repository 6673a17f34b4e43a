/-
  conf: ConfLines and ConfNumbers, in plain Lean.
-/
import Derived.Test.YtddnfooachibiaaGreatDoorConfText
set_option linter.unusedVariables false
set_option linter.unusedSimpArgs false
namespace Go.Proofs.YtddnfooachibiaaGreatDoor
open Go
/-- A line of nothing: '  # x = [y]' or blanks. -/
def blankL (i : Nat) : List UInt8 := if i % 2 = 0 then [32, 32, 35, 32, 120, 32, 61, 32, 91, 121, 93] else [32, 32, 32]
def aheadL : Nat → List UInt8
  | 0 => []
  | n + 1 => aheadL n ++ (blankL n ++ [10])
theorem blank_line (st : StC) (i : Nat) : lineC st (blankL i) = .ok st := by
  unfold blankL
  split <;> rfl
theorem blank_no (i : Nat) : (10 : UInt8) ∉ blankL i := by
  unfold blankL
  split <;> decide
theorem ahead_parse (st : StC) : ∀ (n : Nat) (t : List UInt8) (i : Nat), parseL i st (linesL (aheadL n ++ t)) = parseL (i + n) st (linesL t)
  | 0, t, i => rfl
  | n + 1, t, i => by
    have e : aheadL (n + 1) ++ t = aheadL n ++ (blankL n ++ 10 :: t) := by
      show (aheadL n ++ (blankL n ++ [10])) ++ t = _
      rw [List.append_assoc, List.append_assoc]
      rfl
    rw [e, ahead_parse st n _ i, linesL_cons _ _ (blank_no n), parseL, blank_line]
    rfl
theorem parse_ahead (n : Nat) (s : ByteArray) (h : (aheadL n).length + s.size ≤ 8192) :
    parseC (bA (aheadL n ++ s.data.toList)) = match parseL 0 ⟨[], []⟩ (linesL s.data.toList) with
      | .error (i, e) => (.fault ((i + n : Nat) : Int) e, [])
      | .ok st => parseC s := by
  have hs : (bA (aheadL n ++ s.data.toList)).size = (aheadL n).length + s.size := by
    show (aheadL n ++ s.data.toList).toArray.size = _
    rw [List.size_toArray, List.length_append, Array.length_toList]
    rfl
  have e0 := parseL_shift (linesL s.data.toList) 0 n ⟨[], []⟩
  unfold parseC
  rw [if_neg (by omega), if_neg (by omega), bA_list, ahead_parse, e0]
  cases parseL 0 ⟨[], []⟩ (linesL s.data.toList) with
  | error x => rfl
  | ok st => rfl
def headN (slots : Bool) : List UInt8 := [91, 97, 93, 10, 114, 111, 111, 116, 32, 61, 32, 114, 10] ++ (if slots then [115, 108, 111, 116, 115] else [113, 117, 111, 116, 97])
def oneC (slots : Bool) (n : Int) : ModC := ⟨⟨#[97]⟩, ⟨#[114]⟩, false, if slots then n else 16, if slots then 262144 else n, []⟩
def inN (slots : Bool) (n : Int) : Prop := (if slots then 1 else 0) ≤ n ∧ n ≤ (if slots then 16 else 262144)
instance (slots : Bool) (n : Int) : Decidable (inN slots n) := inferInstanceAs (Decidable (_ ∧ _))
theorem ends_no {t : List UInt8} (h : (32 : UInt8) ∉ t) : t.head? ≠ some 32 ∧ t.getLast? ≠ some 32 := ⟨fun e => h (List.mem_of_head? e), fun e => h (List.mem_of_getLast? e)⟩
theorem trim_key {k t : List UInt8} (hk : k ≠ []) (hk2 : (32 : UInt8) ∉ k) (ht : t.head? ≠ some 32 ∧ t.getLast? ≠ some 32) : Lib.trimB (k ++ 32 :: 61 :: 32 :: t) 32 = k ++ 32 :: 61 :: (if t = [] then [] else 32 :: t) := by
  have hl : ∀ x : List UInt8, Lib.trimLeftB (k ++ x) 32 = k ++ x := fun x => by
    cases k with
    | nil => exact absurd rfl hk
    | cons a r =>
      have : a ≠ 32 := fun e => hk2 (by rw [e]; exact List.mem_cons_self)
      simp [Lib.trimLeftB, List.dropWhile_cons, this]
  unfold Lib.trimB
  by_cases h : t = []
  · subst h
    have e : Lib.trimRightB (k ++ [32, 61, 32]) 32 = k ++ [32, 61] := by
      simp [Lib.trimRightB, List.dropWhile_cons]
    rw [e, if_pos rfl, hl]
  · have e : Lib.trimRightB (k ++ 32 :: 61 :: 32 :: t) 32 = k ++ 32 :: 61 :: 32 :: t := by
      obtain ⟨r, c, rfl⟩ : ∃ r c, t = r ++ [c] := ⟨t.dropLast, t.getLast h, (List.dropLast_concat_getLast h).symm⟩
      have hc : c ≠ 32 := fun e => ht.2 (by rw [e]; simp)
      simp [Lib.trimRightB, List.dropWhile_cons, hc]
    rw [e, if_neg h, hl]
theorem cut_at {c : UInt8} {k x : List UInt8} (hk : c ∉ k) : Lib.cut (k ++ c :: x) [c] = (k, x, true) := by
  have hi : Lib.index (k ++ c :: x) [c] = (k.length : Int) := by
    rw [Lib.index_one]
    induction k with
    | nil => simp [Lib.indexByte]
    | cons a r ih =>
      have ha : a ≠ c := fun e => hk (by rw [e]; exact List.mem_cons_self)
      have hr := ih (fun h => hk (List.mem_cons_of_mem _ h))
      rw [List.cons_append, Lib.indexByte, hr]
      simp [ha]
  unfold Lib.cut
  rw [hi, if_pos (by omega)]
  simp
theorem cut_key {k x : List UInt8} (hk : (61 : UInt8) ∉ k) : Lib.cut (k ++ 61 :: x) [61] = (k, x, true) := cut_at hk
theorem key_line (st : StC) (m : ModC) {k t : List UInt8} (hk : k ≠ []) (hk2 : (32 : UInt8) ∉ k) (hk3 : (61 : UInt8) ∉ k) (hk4 : k.head? ≠ some 35) (hk5 : k.head? ≠ some 91) (ht : t.head? ≠ some 32 ∧ t.getLast? ≠ some 32) (hm : st.ms.getLast? = some m) :
    lineC st (k ++ 32 :: 61 :: 32 :: t) = (setC m st.seen (bA k) (bA t)).map fun r => ⟨st.ms.dropLast ++ [r.1], r.2⟩ := by
  unfold lineC
  rw [trim_key hk hk2 ht]
  have hne : k ++ 32 :: 61 :: (if t = [] then [] else 32 :: t) ≠ [] := by simp
  have hhd : (k ++ 32 :: 61 :: (if t = [] then [] else 32 :: t)).head? = k.head? := by
    cases k with
    | nil => exact absurd rfl hk
    | cons a r => rfl
  have hct : Lib.cut (k ++ 32 :: 61 :: (if t = [] then [] else 32 :: t)) [61] = (k ++ [32], (if t = [] then [] else 32 :: t), true) := by
    have h := cut_key (k := k ++ [32]) (x := if t = [] then [] else 32 :: t) (by
      intro h
      rcases List.mem_append.1 h with h | h
      · exact hk3 h
      · simp at h)
    rw [List.append_assoc] at h
    exact h
  have h1 : keyC (k ++ 32 :: 61 :: (if t = [] then [] else 32 :: t)) = bA k := by
    unfold keyC
    rw [hct]
    congr 1
    obtain ⟨r, c, rfl⟩ : ∃ r c, k = r ++ [c] := ⟨k.dropLast, k.getLast hk, (List.dropLast_concat_getLast hk).symm⟩
    have hc : c ≠ 32 := fun e => hk2 (by rw [e]; simp)
    simp [Lib.trimRightB, List.dropWhile_cons, hc]
  have h2 : valC (k ++ 32 :: 61 :: (if t = [] then [] else 32 :: t)) = bA t := by
    unfold valC
    rw [hct]
    congr 1
    simp only
    by_cases h : t = []
    · rw [if_pos h, h]; rfl
    · rw [if_neg h]
      cases t with
      | nil => exact absurd rfl h
      | cons a r =>
        have ha : a ≠ 32 := fun e => ht.1 (by rw [e]; rfl)
        simp [Lib.trimLeftB, List.dropWhile_cons, ha]
  unfold lineT
  rw [if_neg (by rw [hhd]; rintro (h | h); · exact hne h
                 · exact hk4 h), if_neg (by rw [hhd]; exact hk5), h1, h2, hct, if_neg (by simp), hm]
theorem head_lines (slots : Bool) {t : List UInt8} (ht : (10 : UInt8) ∉ t) : linesL (headN slots ++ 32 :: 61 :: 32 :: t) = [[91, 97, 93], [114, 111, 111, 116, 32, 61, 32, 114], (if slots then [115, 108, 111, 116, 115] else [113, 117, 111, 116, 97]) ++ 32 :: 61 :: 32 :: t] := by
  have h3 : linesL ((if slots then [115, 108, 111, 116, 115] else [113, 117, 111, 116, 97]) ++ 32 :: 61 :: 32 :: t) = [(if slots then [115, 108, 111, 116, 115] else [113, 117, 111, 116, 97]) ++ 32 :: 61 :: 32 :: t] := linesL_one _ (by
    intro h
    rcases List.mem_append.1 h with h | h
    · cases slots <;> simp at h
    · simp only [List.mem_cons] at h
      rcases h with h | h | h | h
      · cases h
      · cases h
      · cases h
      · exact ht h)
  have e : headN slots ++ 32 :: 61 :: 32 :: t = [91, 97, 93] ++ 10 :: ([114, 111, 111, 116, 32, 61, 32, 114] ++ 10 :: ((if slots then [115, 108, 111, 116, 115] else [113, 117, 111, 116, 97]) ++ 32 :: 61 :: 32 :: t)) := by
    cases slots <;> rfl
  rw [e, linesL_cons _ _ (by decide), linesL_cons _ _ (by decide), h3]
/-- A module of one number. -/
theorem parse_num (slots : Bool) (t : List UInt8) (h32 : (32 : UInt8) ∉ t) (h10 : (10 : UInt8) ∉ t) (hl : t.length ≤ 100) :
    parseC (bA (headN slots ++ 32 :: 61 :: 32 :: t)) = if inN slots (numB (bA t)) then (.nil, [oneC slots (numB (bA t))]) else (.fault 2 130, []) := by
  have hs : (bA (headN slots ++ 32 :: 61 :: 32 :: t)).size ≤ 200 := by
    have : (headN slots).length = 18 := by cases slots <;> rfl
    simp [bA, ByteArray.size]
    omega
  unfold parseC
  rw [if_neg (by omega), bA_list, head_lines slots h10]
  have l1 : lineC ⟨[], []⟩ [91, 97, 93] = .ok ⟨[newMod ⟨#[97]⟩], []⟩ := by kernel_rfl
  have l2 : lineC ⟨[newMod ⟨#[97]⟩], []⟩ [114, 111, 111, 116, 32, 61, 32, 114] = .ok ⟨[⟨⟨#[97]⟩, ⟨#[114]⟩, false, 16, 262144, []⟩], [kRoot]⟩ := by kernel_rfl
  have l3 := key_line ⟨[⟨⟨#[97]⟩, ⟨#[114]⟩, false, 16, 262144, []⟩], [kRoot]⟩ ⟨⟨#[97]⟩, ⟨#[114]⟩, false, 16, 262144, []⟩ (k := if slots then [115, 108, 111, 116, 115] else [113, 117, 111, 116, 97]) (t := t) (by cases slots <;> simp) (by cases slots <;> decide) (by cases slots <;> decide) (by cases slots <;> decide) (by cases slots <;> decide) (ends_no h32) rfl
  rw [parseL, l1]
  simp only
  rw [parseL, l2]
  simp only
  rw [parseL, l3]
  have hw : ∀ m : ModC, m.root = ⟨#[114]⟩ → wholeC 0 [] [m] = .nil := fun m hm => by
    unfold wholeC
    rw [hm, if_neg (by decide), if_neg (by simp)]
    rfl
  cases slots with
  | true =>
    have hset : setC ⟨⟨#[97]⟩, ⟨#[114]⟩, false, 16, 262144, []⟩ [kRoot] (bA [115, 108, 111, 116, 115]) (bA t) = if inN true (numB (bA t)) then .ok (oneC true (numB (bA t)), [kRoot, kSlots]) else .error 130 := by
      unfold setC
      rw [if_neg (by decide), if_neg (by decide)]
      unfold putC
      rw [if_neg (by decide), if_neg (by decide), if_pos (by rfl)]
      by_cases hin : inN true (numB (bA t))
      · rw [if_pos hin, if_pos (show 1 ≤ numB (bA t) ∧ numB (bA t) ≤ 16 from hin)]; rfl
      · rw [if_neg hin, if_neg (show ¬ (1 ≤ numB (bA t) ∧ numB (bA t) ≤ 16) from hin)]; rfl
    simp only [if_true] at hset ⊢
    rw [hset]
    by_cases hin : inN true (numB (bA t))
    · rw [if_pos hin, if_pos hin]
      simp only [Except.map, parseL, List.dropLast_singleton, List.nil_append]
      rw [hw _ rfl]
    · rw [if_neg hin, if_neg hin]
      rfl
  | false =>
    have hset : setC ⟨⟨#[97]⟩, ⟨#[114]⟩, false, 16, 262144, []⟩ [kRoot] (bA [113, 117, 111, 116, 97]) (bA t) = if inN false (numB (bA t)) then .ok (oneC false (numB (bA t)), [kRoot, kQuota]) else .error 130 := by
      unfold setC
      rw [if_neg (by decide), if_neg (by decide)]
      unfold putC
      rw [if_neg (by decide), if_neg (by decide), if_neg (by decide), if_pos (by rfl)]
      by_cases hin : inN false (numB (bA t))
      · rw [if_pos hin, if_pos (show 0 ≤ numB (bA t) ∧ numB (bA t) ≤ 262144 from hin)]; rfl
      · rw [if_neg hin, if_neg (show ¬ (0 ≤ numB (bA t) ∧ numB (bA t) ≤ 262144) from hin)]; rfl
    simp only [Bool.false_eq_true, if_false] at hset ⊢
    rw [hset]
    by_cases hin : inN false (numB (bA t))
    · rw [if_pos hin, if_pos hin]
      simp only [Except.map, parseL, List.dropLast_singleton, List.nil_append]
      rw [hw _ rfl]
    · rw [if_neg hin, if_neg hin]
      rfl
end Go.Proofs.YtddnfooachibiaaGreatDoor
