/-
  The laws' 'same' and 'fits'.
-/
import Derived.Test.YtlidenehfmlebaaGreatDoorTreeHead
set_option linter.unusedVariables false
set_option linter.unusedSimpArgs false
namespace Go.Proofs.YtlidenehfmlebaaGreatDoor
open Go.RowKit
open Go.Proofs.YtlidenehfmlebaaGreatDoorW.PrintWords (Kd ReadsRow)
theorem text_eq_false {a b : ByteArray} (h : a ≠ b) : (a.toList == b.toList) = false := by
  rw [beq_eq_false_iff_ne]
  intro e
  rw [ByteArray.toList_eq, ByteArray.toList_eq] at e
  exact h (ba_ext e)
/-- An operation of a script: its kind, its changes, the versions that are kept. -/
abbrev OpT := Int × List ChgD × List Int
/-- A script in memory. -/
def OpTRow (w : World) (A : Option Addr) (l : List OpT) : Prop := ∀ k (h : k < l.length), ∃ b off A' c' A2 c2, A = some ⟨b, off, none⟩ ∧ w.cell? ⟨b, off + k * 3, none⟩ = some (.int .i64 l[k].1) ∧ w.cell? ⟨b, off + k * 3 + 1, none⟩ = some (.slice A' l[k].2.1.length c') ∧
  w.cell? ⟨b, off + k * 3 + 2, none⟩ = some (.slice A2 l[k].2.2.length c2) ∧ l[k].2.1.length ≤ c' ∧ ChgRow w A' l[k].2.1 ∧ l[k].2.2.length ≤ c2 ∧ IntRow w A2 l[k].2.2
theorem OpTRow.below {w w' : World} {A : Option Addr} {l : List OpT} (h : OpTRow w A l) (hb : Below w.heap.size w w') : OpTRow w' A l := fun k hk => by
  obtain ⟨b, off, A', c', A2, c2, h0, h1, h2, h3, h4, h5, h6⟩ := h k hk
  exact ⟨b, off, A', c', A2, c2, h0, cell_below hb h1, cell_below hb h2, cell_below hb h3, h4, h5.below hb, h6.1, h6.2.below hb⟩
def fitC (c : ChgD) : Bool := decide (c.1.size ≤ 200) && decide (c.2.1.length ≤ 300000)
def fitO (o : OpT) : Bool := decide (o.2.1.length ≤ 80) && decide (o.2.2.length ≤ 20) && o.2.1.all fitC
def sizeC (l : List ChgD) : Nat := (l.map fun c => c.2.1.length).sum
def sizeO (l : List OpT) : Nat := (l.map fun o => sizeC o.2.1).sum
def fitT (l : List OpT) : Bool := decide (l.length ≤ 30) && l.all fitO && decide (sizeO l ≤ 1000000)
theorem sizeC_take {l : List ChgD} {k : Nat} (hk : k < l.length) : sizeC (l.take (k + 1)) = sizeC (l.take k) + l[k].2.1.length := by
  rw [List.take_succ_eq_append_getElem hk]
  simp only [sizeC, List.map_append, List.sum_append, List.map_cons, List.map_nil, List.sum_cons, List.sum_nil, Nat.add_zero]
theorem sizeO_take {l : List OpT} {k : Nat} (hk : k < l.length) : sizeO (l.take (k + 1)) = sizeO (l.take k) + sizeC l[k].2.1 := by
  rw [List.take_succ_eq_append_getElem hk]
  simp only [sizeO, List.map_append, List.sum_append, List.map_cons, List.map_nil, List.sum_cons, List.sum_nil, Nat.add_zero]
theorem sizeC_le (l : List ChgD) (k : Nat) : sizeC (l.take k) ≤ sizeC l := by
  have h := List.take_append_drop k l
  have : sizeC l = sizeC (l.take k) + sizeC (l.drop k) := by
    conv => lhs; rw [← h]
    simp only [sizeC, List.map_append, List.sum_append]
  omega
theorem sizeO_le (l : List OpT) (k : Nat) : sizeO (l.take k) ≤ sizeO l := by
  have h := List.take_append_drop k l
  have : sizeO l = sizeO (l.take k) + sizeO (l.drop k) := by
    conv => lhs; rw [← h]
    simp only [sizeO, List.map_append, List.sum_append]
  omega
theorem fitT_len {l : List OpT} (h : ¬ l.length ≤ 30) : fitT l = false := by simp [fitT, h]
theorem fitT_op {l : List OpT} {o : OpT} (ho : o ∈ l) (h : fitO o = false) : fitT l = false := by
  have : l.all fitO = false := List.all_eq_false.2 ⟨o, ho, by simp [h]⟩
  rw [fitT, this]
  simp
theorem fitT_size {l : List OpT} (h : 1000000 < sizeO l) : fitT l = false := by
  have : decide (sizeO l ≤ 1000000) = false := decide_eq_false (by omega)
  rw [fitT, this]
  simp
theorem fitO_chg {o : OpT} {c : ChgD} (hc : c ∈ o.2.1) (h : fitC c = false) : fitO o = false := by
  have : o.2.1.all fitC = false := List.all_eq_false.2 ⟨c, hc, by simp [h]⟩
  rw [fitO, this]
  simp
theorem fitT_yes {l : List OpT} (h1 : l.length ≤ 30) (h2 : ∀ o ∈ l, fitO o = true) (h3 : sizeO l ≤ 1000000) : fitT l = true := by
  rw [fitT, decide_eq_true h1, decide_eq_true h3, List.all_eq_true.2 h2]
  rfl
theorem fitO_yes {o : OpT} (h1 : o.2.1.length ≤ 80) (h2 : o.2.2.length ≤ 20) (h3 : ∀ c ∈ o.2.1, fitC c = true) : fitO o = true := by
  rw [fitO, decide_eq_true h1, decide_eq_true h2, List.all_eq_true.2 h3]
  rfl
theorem fitT_out {l : List OpT} (h : fitT l = true) : l.length ≤ 30 ∧ (∀ o ∈ l, o.2.1.length ≤ 80 ∧ o.2.2.length ≤ 20 ∧ ∀ c ∈ o.2.1, c.1.size ≤ 200 ∧ c.2.1.length ≤ 300000) ∧ sizeO l ≤ 1000000 := by
  simp only [fitT, Bool.and_eq_true, decide_eq_true_eq, List.all_eq_true, fitO, fitC] at h
  exact ⟨h.1.1, fun o ho => ⟨(h.1.2 o ho).1.1, (h.1.2 o ho).1.2, fun c hc => (h.1.2 o ho).2 c hc⟩, h.2⟩
end Go.Proofs.YtlidenehfmlebaaGreatDoor
