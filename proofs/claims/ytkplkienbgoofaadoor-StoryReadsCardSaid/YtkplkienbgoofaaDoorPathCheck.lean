/-
  path.sign and path.Check: what they come to.
-/
import Derived.Test.YtkplkienbgoofaaDoorErrN
import Derived.Test.YtkplkienbgoofaaDoorPathPlain
import Derived.Test.YtkplkienbgoofaaDoorShelf
import Derived.WalkKit
import Derived.Outline
import Derived.LaidEql
import Derived.Below
import Derived.WalkLawsBesides
import Derived.WalkSpells
import Derived.Deep.QuietTactic
import Derived.BigQuiet
import Derived.Deep.LoopGhost
import Derived.Lib.Hide
set_option linter.unusedVariables false
set_option linter.unusedSimpArgs false
namespace Go.Proofs.YtkplkienbgoofaaDoor
open Go.RowKit

theorem signB_iff (c : UInt8) : signB c = true ↔ (97 ≤ (c.toNat : Int) ∧ (c.toNat : Int) ≤ 122) ∨ (48 ≤ (c.toNat : Int) ∧ (c.toNat : Int) ≤ 57) ∨ (c.toNat : Int) = 95 ∨ (c.toNat : Int) = 45 ∨ (c.toNat : Int) = 46 := by
  unfold signB
  simp only [Bool.or_eq_true, Bool.and_eq_true, decide_eq_true_eq, beq_iff_eq, UInt8.le_iff_toNat_le, ← UInt8.toNat_inj]
  simp
  omega
theorem ret_sign {b : Bool} {c : UInt8} (h : signB c = b) : Ending.returned (.bool b) = .returned (.bool (signB c)) := by rw [h]
theorem sign_yes {c : UInt8} (h : (97 ≤ (c.toNat : Int) ∧ (c.toNat : Int) ≤ 122) ∨ (48 ≤ (c.toNat : Int) ∧ (c.toNat : Int) ≤ 57) ∨ (c.toNat : Int) = 95 ∨ (c.toNat : Int) = 45 ∨ (c.toNat : Int) = 46) : signB c = true := (signB_iff c).2 h
theorem sign_no {c : UInt8} (h : ¬((97 ≤ (c.toNat : Int) ∧ (c.toNat : Int) ≤ 122) ∨ (48 ≤ (c.toNat : Int) ∧ (c.toNat : Int) ≤ 57) ∨ (c.toNat : Int) = 95 ∨ (c.toNat : Int) = 45 ∨ (c.toNat : Int) = 46)) : signB c = false := by
  cases hb : signB c with
  | false => rfl
  | true => exact absurd ((signB_iff c).1 hb) h
/-- An error is handed back, and nothing that was there has turned. -/
def RetErr (w : World) (g : GErr) (e : Ending) (w' : World) : Prop := ∃ v, e = .returned v ∧ ErrV w' v g ∧ Below w.heap.size w w'
/-- What path.Check hands back. -/
def checkG (s : ByteArray) : GErr :=
  match checkB s with
  | none => .nil
  | some p => .fault p 90
theorem retErr_fault {w W : World} {p : Int} {g : GErr} (hg : g = .fault p 90) (hb : Below w.heap.size w W) :
    RetErr w g (.returned (.iface 49 (.pointer (some ⟨W.heap.size, 0, none⟩)))) (W.alloc (.cells #[.int .i64 p, .int .i64 90] 51)) :=
  ⟨_, rfl, hg ▸ ⟨W.heap.size, rfl, by simp, by simp, _, _, heap_alloc_new W _⟩, hb.alloc hb.size _⟩
theorem checkG_of {s : ByteArray} {p : Nat} (h : checkB s = some p) : checkG s = .fault (p : Int) 90 := by simp [checkG, h]
theorem checkG_none {s : ByteArray} (h : checkB s = none) : checkG s = .nil := by simp [checkG, h]

theorem partsBad_none {k a : Nat} : partsBad k a [] = none := rfl
theorem partsBad_six {a : Nat} {p : List UInt8} {ps : List (List UInt8)} : partsBad 6 a (p :: ps) = some a := by simp [partsBad]
theorem partsBad_no {k a : Nat} {p : List UInt8} {ps : List (List UInt8)} (hk : k ≠ 6) (h : segNo p = true) : partsBad k a (p :: ps) = some a := by simp [partsBad, hk, h]
theorem partsBad_byte {k a j : Nat} {p : List UInt8} {ps : List (List UInt8)} (hk : k ≠ 6) (h : segNo p = false) (hb : badAt 0 p = some j) : partsBad k a (p :: ps) = some (a + j) := by simp [partsBad, hk, h, hb]
theorem partsBad_next {k a : Nat} {p : List UInt8} {ps : List (List UInt8)} (hk : k ≠ 6) (h : segNo p = false) (hb : badAt 0 p = none) : partsBad k a (p :: ps) = partsBad (k + 1) (a + (p.length + 1)) ps := by simp [partsBad, hk, h, hb]
theorem badAt_step {k : Nat} {l : List UInt8} (h : k < l.length) (hs : signB l[k] = true) : badAt k (l.drop k) = badAt (k + 1) (l.drop (k + 1)) := by
  rw [List.drop_eq_getElem_cons h, badAt, if_pos hs]
theorem badAt_hit {k : Nat} {l : List UInt8} (h : k < l.length) (hs : signB l[k] = false) : badAt k (l.drop k) = some k := by
  rw [List.drop_eq_getElem_cons h, badAt, if_neg (by simp [hs])]
theorem badAt_end {l : List UInt8} : badAt l.length (l.drop l.length) = none := by simp [badAt]

theorem segNo_eq (p : ByteArray) : segNo p.data.toList = (p.toList.isEmpty || p.toList == [46] || p.toList == [46, 46] || decide (16 < p.size)) := by
  rw [ByteArray.toList_eq]; rfl
theorem segs_length (s : ByteArray) : (segs s).length = Lib.countB s ⟨#[47]⟩ + 1 := Lib.splitB_all ⟨#[47]⟩ (by decide) 0 _ s rfl
end Go.Proofs.YtkplkienbgoofaaDoor
