/-
  path.Set, in plain Lean.
-/
import Derived.Test.YtlidenehfmlebaaGreatDoorPathPlain
import Derived.Test.YtlidenehfmlebaaGreatDoorPathPlain2
import Derived.Laws.Strings
set_option linter.unusedVariables false
set_option linter.unusedSimpArgs false
namespace Go.Proofs.YtlidenehfmlebaaGreatDoor

/-- 'x > s', as Go compares texts. -/
def gtB (s x : ByteArray) : Bool := !Op.bytesLess x.toList s.toList && !(x.toList == s.toList)
/-- Why a path can't stand beside another one. -/
def hit (s x : ByteArray) : Option Nat := if x.toList == s.toList then some 5 else if clashB x s then some 90 else none
def scan (s : ByteArray) : List ByteArray → Option Nat
  | [] => none
  | x :: r => match hit s x with
    | some c => some c
    | none => scan s r
/-- The place at which a text is put. -/
def pos (s : ByteArray) (xs : List ByteArray) : Nat := xs.findIdx (gtB s)
def ins (s : ByteArray) (xs : List ByteArray) : List ByteArray := xs.take (pos s xs) ++ s :: xs.drop (pos s xs)
inductive SetR where
  | none_ (i : Nat)
  | bad (i : Nat) (c : Nat)
  | ok (xs : List ByteArray)
def setGo : Nat → List ByteArray → List ByteArray → SetR
  | _, out, [] => .ok out
  | i, out, s :: r =>
    match checkB s with
    | some _ => .none_ i
    | none => match scan s out with
      | some c => .bad i c
      | none => setGo (i + 1) (ins s out) r
theorem scan_append (s : ByteArray) : ∀ (xs ys : List ByteArray), scan s (xs ++ ys) = (match scan s xs with | some c => some c | none => scan s ys)
  | [], ys => rfl
  | x :: xs, ys => by
    simp only [List.cons_append, scan]
    cases hit s x with
    | some c => rfl
    | none => exact scan_append s xs ys
theorem scan_take_hit {s : ByteArray} {xs : List ByteArray} {k : Nat} (hk : k < xs.length) (h0 : scan s (xs.take k) = none) {c : Nat} (h : hit s xs[k] = some c) : scan s xs = some c := by
  have e : xs = xs.take k ++ xs[k] :: xs.drop (k + 1) := by rw [← List.drop_eq_getElem_cons, List.take_append_drop]
  rw [e, scan_append, h0]
  simp [scan, h]
theorem scan_take_next {s : ByteArray} {xs : List ByteArray} {k : Nat} (hk : k < xs.length) (h0 : scan s (xs.take k) = none) (h : hit s xs[k] = none) : scan s (xs.take (k + 1)) = none := by
  rw [List.take_succ_eq_append_getElem hk, scan_append, h0]
  simp [scan, h]
/-- The place so far: that of the first greater text among the first k, else n. -/
def posTo (s : ByteArray) (xs : List ByteArray) (k : Nat) : Nat := if pos s (xs.take k) < k then pos s (xs.take k) else xs.length
theorem posTo_zero (s : ByteArray) (xs : List ByteArray) : posTo s xs 0 = xs.length := by simp [posTo]
theorem pos_le (s : ByteArray) (xs : List ByteArray) : pos s xs ≤ xs.length := List.findIdx_le_length
theorem posTo_le (s : ByteArray) (xs : List ByteArray) (k : Nat) (hk : k ≤ xs.length) : posTo s xs k ≤ xs.length := by unfold posTo; split <;> omega
theorem pos_next (s : ByteArray) (xs : List ByteArray) (x : ByteArray) : pos s (xs ++ [x]) = if pos s xs < xs.length then pos s xs else xs.length + (if gtB s x then 0 else 1) := by
  unfold pos
  rw [List.findIdx_append]
  split <;> simp [List.findIdx_cons]
  split <;> simp_all [Nat.add_comm]
theorem posTo_next (s : ByteArray) (xs : List ByteArray) (k : Nat) (hk : k < xs.length) : posTo s xs (k + 1) = if gtB s xs[k] && decide (k < posTo s xs k) then k else posTo s xs k := by
  have hl : (xs.take k).length = k := by simp; omega
  unfold posTo
  rw [List.take_succ_eq_append_getElem hk, pos_next, hl]
  have h1 := pos_le s (xs.take k)
  rw [hl] at h1
  by_cases hp : pos s (xs.take k) < k
  · rw [if_pos hp, if_pos (by omega), if_pos hp, if_neg (by simp; intro _; omega)]
  · rw [if_neg hp]
    cases hg : gtB s xs[k] <;> simp [hp, hk]
theorem posTo_end (s : ByteArray) (xs : List ByteArray) : posTo s xs xs.length = pos s xs := by
  unfold posTo
  rw [List.take_length]
  have := pos_le s xs
  split <;> omega
theorem ins_length (s : ByteArray) (xs : List ByteArray) : (ins s xs).length = xs.length + 1 := by
  have := pos_le s xs
  simp [ins]
  omega
end Go.Proofs.YtlidenehfmlebaaGreatDoor
