/-
  conf.Parse, in plain Lean: what both the program and the reference compute.
-/
import Derived.Test.YtddnfooachibiaaGreatDoorConfNum
import Derived.Test.YtddnfooachibiaaGreatDoorPathPlain
import Derived.Test.YtddnfooachibiaaGreatDoorErrV
import Derived.Lib.TrimByte
import Derived.Lib.IndexMore
set_option linter.unusedVariables false
set_option linter.unusedSimpArgs false
namespace Go.Proofs.YtddnfooachibiaaGreatDoor
def bA (l : List UInt8) : ByteArray := ⟨l.toArray⟩
theorem bA_list (l : List UInt8) : (bA l).data.toList = l := rfl
theorem bA_self (s : ByteArray) : bA s.data.toList = s := rfl
/-- A text's lines. -/
def linesL : List UInt8 → List (List UInt8)
  | [] => [[]]
  | c :: r => if c = 10 then [] :: linesL r else match linesL r with
    | [] => [[c]]
    | h :: t => (c :: h) :: t
theorem linesL_some : ∀ l, linesL l ≠ []
  | [] => by simp [linesL]
  | c :: r => by
    rw [linesL]
    split
    · simp
    · split <;> simp
/-- A line ahead of a text. -/
theorem linesL_cons (a b : List UInt8) (ha : (10 : UInt8) ∉ a) : linesL (a ++ 10 :: b) = a :: linesL b := by
  induction a with
  | nil => simp [linesL]
  | cons c r ih =>
    have h1 : c ≠ 10 := fun e => ha (by rw [e]; exact List.mem_cons_self)
    have h2 : (10 : UInt8) ∉ r := fun h => ha (List.mem_cons_of_mem _ h)
    rw [List.cons_append, linesL, if_neg h1, ih h2]
theorem linesL_one (a : List UInt8) (ha : (10 : UInt8) ∉ a) : linesL a = [a] := by
  induction a with
  | nil => rfl
  | cons c r ih =>
    have h1 : c ≠ 10 := fun e => ha (by rw [e]; exact List.mem_cons_self)
    have h2 : (10 : UInt8) ∉ r := fun h => ha (List.mem_cons_of_mem _ h)
    rw [linesL, if_neg h1, ih h2]
def alnumU (c : UInt8) : Bool := (decide (97 ≤ c.toNat) && decide (c.toNat ≤ 122)) || (decide (65 ≤ c.toNat) && decide (c.toNat ≤ 90)) || digU c
/-- Is it a name? -/
def nameC (s : ByteArray) : Bool := !s.data.toList.isEmpty && decide (s.data.toList.length ≤ 16) && s.data.toList.all alnumU
structure ModC where
  name : ByteArray
  root : ByteArray
  wr : Bool
  sl : Int
  qu : Int
  us : List (ByteArray × ByteArray)
def newMod (n : ByteArray) : ModC := ⟨n, ⟨#[]⟩, false, 16, 262144, []⟩
def findC (ms : List ModC) (n : ByteArray) : Option ModC := ms.find? fun m => decide (m.name = n)
def secretC (us : List (ByteArray × ByteArray)) (n : ByteArray) : Option ByteArray := (us.find? fun u => decide (u.1 = n)).map (·.2)
def userC (m : ModC) (v : ByteArray) : Except Int ModC :=
  if (Go.Lib.cut v.data.toList [58]).2.2 = false ∨ (Go.Lib.cut v.data.toList [58]).2.1 = [] ∨ 16 < (Go.Lib.cut v.data.toList [58]).2.1.length then .error 130
  else if nameC (bA (Go.Lib.cut v.data.toList [58]).1) = false then .error 131
  else if (secretC m.us (bA (Go.Lib.cut v.data.toList [58]).1)).isSome then .error 5
  else if 8 ≤ m.us.length then .error 3
  else .ok { m with us := m.us ++ [(bA (Go.Lib.cut v.data.toList [58]).1, bA (Go.Lib.cut v.data.toList [58]).2.1)] }
def kUser : ByteArray := ⟨#[117, 115, 101, 114]⟩
def kRoot : ByteArray := ⟨#[114, 111, 111, 116]⟩
def kWrite : ByteArray := ⟨#[119, 114, 105, 116, 101]⟩
def kSlots : ByteArray := ⟨#[115, 108, 111, 116, 115]⟩
def kQuota : ByteArray := ⟨#[113, 117, 111, 116, 97]⟩
def vYes : ByteArray := ⟨#[121, 101, 115]⟩
def vTrue : ByteArray := ⟨#[116, 114, 117, 101]⟩
def vNo : ByteArray := ⟨#[110, 111]⟩
def vFalse : ByteArray := ⟨#[102, 97, 108, 115, 101]⟩
/-- A module with what a line says of it, by a key that was not yet. -/
def putC (m : ModC) (k v : ByteArray) : Except Int ModC :=
  if k = kRoot then if (checkB v).isSome then .error 90 else .ok { m with root := v }
  else if k = kWrite then if v = vYes ∨ v = vTrue then .ok { m with wr := true } else if v = vNo ∨ v = vFalse then .ok m else .error 130
  else if k = kSlots then if 1 ≤ numB v ∧ numB v ≤ 16 then .ok { m with sl := numB v } else .error 130
  else if k = kQuota then if 0 ≤ numB v ∧ numB v ≤ 262144 then .ok { m with qu := numB v } else .error 130
  else .error 130
def hasC (l : List ByteArray) (k : ByteArray) : Bool := l.any fun q => decide (q = k)
structure StC where
  ms : List ModC
  seen : List ByteArray
def setC (m : ModC) (seen : List ByteArray) (k v : ByteArray) : Except Int (ModC × List ByteArray) :=
  if k = kUser then (userC m v).map fun m => (m, seen)
  else if hasC seen k then .error 5
  else (putC m k v).map fun m => (m, seen ++ [k])
/-- A module begins. -/
def openC (st : StC) (l : List UInt8) : Except Int StC :=
  if Go.Lib.hasSuffix (l.drop 1) [93] = false then .error 130
  else if nameC (bA (Go.Lib.trimSuffix (l.drop 1) [93])) = false then .error 131
  else if (findC st.ms (bA (Go.Lib.trimSuffix (l.drop 1) [93]))).isSome then .error 5
  else if 8 ≤ st.ms.length then .error 3
  else .ok ⟨st.ms ++ [newMod (bA (Go.Lib.trimSuffix (l.drop 1) [93]))], []⟩
def keyC (l : List UInt8) : ByteArray := bA (Go.Lib.trimRightB (Go.Lib.cut l [61]).1 32)
def valC (l : List UInt8) : ByteArray := bA (Go.Lib.trimLeftB (Go.Lib.cut l [61]).2.1 32)
/-- A line, trimmed. -/
def lineT (st : StC) (l : List UInt8) : Except Int StC :=
  if l = [] ∨ l.head? = some 35 then .ok st
  else if l.head? = some 91 then openC st l
  else if (Go.Lib.cut l [61]).2.2 = false then .error 130
  else match st.ms.getLast? with
    | none => .error 130
    | some m => (setC m st.seen (keyC l) (valC l)).map fun r => ⟨st.ms.dropLast ++ [r.1], r.2⟩
def lineC (st : StC) (raw : List UInt8) : Except Int StC := lineT st (Go.Lib.trimB raw 32)
/-- Lines from one on. -/
def parseL : Nat → StC → List (List UInt8) → Except (Nat × Int) StC
  | _, st, [] => .ok st
  | i, st, l :: t => match lineC st l with
    | .error e => .error (i, e)
    | .ok st' => parseL (i + 1) st' t
/-- Modules as a whole, from one on. -/
def wholeC : Nat → List ModC → List ModC → GErr
  | _, _, [] => .nil
  | i, before, m :: t =>
    if m.root.data.toList = [] then .fault i 4
    else if before.any (fun x => decide (x.root = m.root) || clashB x.root m.root) then .fault i 90
    else wholeC (i + 1) (before ++ [m]) t
def parseC (s : ByteArray) : GErr × List ModC :=
  if 8192 < s.size then (.fault 0 2, [])
  else match parseL 0 ⟨[], []⟩ (linesL s.data.toList) with
    | .error (i, e) => (.fault i e, [])
    | .ok st => match wholeC 0 [] st.ms with
      | .nil => (.nil, st.ms)
      | g => (g, [])
theorem parseL_append (a b : List (List UInt8)) : ∀ (i : Nat) (st st' : StC), parseL i st a = .ok st' → parseL i st (a ++ b) = parseL (i + a.length) st' b := by
  induction a with
  | nil =>
    intro i st st' h
    simp only [parseL, Except.ok.injEq] at h
    subst h
    rfl
  | cons l t ih =>
    intro i st st' h
    rw [parseL] at h
    rw [List.cons_append, parseL]
    cases hl : lineC st l with
    | error e => rw [hl] at h; cases h
    | ok st1 =>
      rw [hl] at h
      simp only at h ⊢
      rw [ih (i + 1) st1 st' h, List.length_cons]
      congr 1
      omega
theorem parseL_stop (a b : List (List UInt8)) : ∀ (i : Nat) (st : StC) (e : Nat × Int), parseL i st a = .error e → parseL i st (a ++ b) = .error e := by
  induction a with
  | nil => intro i st e h; cases h
  | cons l t ih =>
    intro i st e h
    rw [parseL] at h
    rw [List.cons_append, parseL]
    cases hl : lineC st l with
    | error e1 => rw [hl] at h; exact h
    | ok st1 =>
      rw [hl] at h
      exact ih _ _ _ h
/-- Later places are further on, and nothing else turns. -/
theorem parseL_shift : ∀ (a : List (List UInt8)) (i k : Nat) (st : StC), parseL (i + k) st a = match parseL i st a with
    | .ok st' => .ok st'
    | .error (j, e) => .error (j + k, e)
  | [], i, k, st => rfl
  | l :: t, i, k, st => by
    rw [parseL, parseL]
    cases hl : lineC st l with
    | error e => rfl
    | ok st1 =>
      simp only
      rw [show i + k + 1 = (i + 1) + k by omega]
      exact parseL_shift t (i + 1) k st1
end Go.Proofs.YtddnfooachibiaaGreatDoor
