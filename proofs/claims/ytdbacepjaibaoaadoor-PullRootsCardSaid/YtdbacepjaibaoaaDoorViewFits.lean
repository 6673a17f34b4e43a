/-
  The law's scripts of a store and their 'fits'.
-/
import Derived.Test.YtdbacepjaibaoaaDoorViewHead
set_option linter.unusedVariables false
set_option linter.unusedSimpArgs false
namespace Go.Proofs.YtdbacepjaibaoaaDoor
open Go.RowKit
open Go.Proofs.YtdbacepjaibaoaaDoorW.PrintWords (Kd ReadsRow)
/-- An operation on a store: its kind, its number, its changes. -/
abbrev OpV := Int × Int × List ChgD
/-- A script in memory. -/
def OpVRow (w : World) (A : Option Addr) (l : List OpV) : Prop := ∀ k (h : k < l.length), ∃ b off A' c', A = some ⟨b, off, none⟩ ∧ w.cell? ⟨b, off + k * 3, none⟩ = some (.int .i64 l[k].1) ∧ w.cell? ⟨b, off + k * 3 + 1, none⟩ = some (.int .i64 l[k].2.1) ∧
  w.cell? ⟨b, off + k * 3 + 2, none⟩ = some (.slice A' l[k].2.2.length c') ∧ l[k].2.2.length ≤ c' ∧ ChgRow w A' l[k].2.2
theorem OpVRow.below {w w' : World} {A : Option Addr} {l : List OpV} (h : OpVRow w A l) (hb : Below w.heap.size w w') : OpVRow w' A l := fun k hk => by
  obtain ⟨b, off, A', c', h0, h1, h2, h3, h4, h5⟩ := h k hk
  exact ⟨b, off, A', c', h0, cell_below hb h1, cell_below hb h2, cell_below hb h3, h4, h5.below hb⟩
def kOpV : Kd OpV := Kd.pair (Kd.int .i64) (Kd.pair (Kd.int .i64) (Kd.slice 43 kChg))
def OpVArg (o : OpV) : Prop := (Lit.int .i64 o.1).wf = true ∧ (Lit.int .i64 o.2.1).wf = true ∧ (∀ x ∈ o.2.2, ChgArg x)
theorem opVRow_of {w : World} {A : Option Addr} {l : List OpV} (h : Kd.C kOpV w A l.length l) : OpVRow w A l ∧ (∀ o ∈ l, o.2.2.length ≤ 9223372036854775807 ∧ ∀ x ∈ o.2.2, x.2.1.length ≤ 9223372036854775807) := by
  have hall : ∀ k (hk : k < l.length), ∃ ad A' c', A = some ad ∧ l[k].2.2.length ≤ c' ∧ l[k].2.2.length ≤ 9223372036854775807 ∧ Kd.C kChg w A' l[k].2.2.length l[k].2.2 ∧ ∀ i u, ([.int .i64 l[k].1, .int .i64 l[k].2.1, .slice A' l[k].2.2.length c'] : List Value)[i]? = some u → w.cell? (ad.add (k * 3 + i)) = some u := by
    intro k hk
    obtain ⟨ad, e, hc⟩ := h.2.2 (by omega)
    obtain ⟨c, _, ⟨c0, c1, rfl, h0, ⟨c2, c3, rfl, h1, ⟨A', c', rfl, hle, hr⟩⟩⟩, hcell⟩ := hc k _ (List.getElem?_eq_getElem hk)
    obtain rfl : c0 = [.int .i64 l[k].1] := h0
    obtain rfl : c2 = [.int .i64 l[k].2.1] := h1
    exact ⟨ad, A', c', e, hle, hr.2.1, hr, hcell⟩
  refine ⟨fun k hk => ?_, fun o ho => ?_⟩
  · obtain ⟨ad0, _, _, e0, _, _, _, hcell0⟩ := hall 0 (by omega)
    obtain ⟨ad, A', c', e, hle, _, hr, hcell⟩ := hall k hk
    obtain ⟨b, off, spot⟩ := ad
    have hs : spot = none := by
      have h1 := hcell0 0 _ rfl
      have e1 : ad0 = ⟨b, off, spot⟩ := Option.some.inj (e0.symm.trans e)
      rw [e1] at h1
      have := World.cell?_spot h1
      simpa [Addr.add] using this
    subst hs
    have g0 := hcell 0 _ rfl
    have g1 := hcell 1 _ rfl
    have g2 := hcell 2 _ rfl
    rw [Addr.add_lit] at g0 g1 g2
    exact ⟨b, off, A', c', e, g0, by rw [Nat.add_assoc]; exact g1, by rw [Nat.add_assoc]; exact g2, hle, chgRow_of hr⟩
  · obtain ⟨k, hk, rfl⟩ := List.getElem_of_mem ho
    obtain ⟨ad, A', c', e, hle, hl, hr, hcell⟩ := hall k hk
    exact ⟨hl, chgLen_of hr⟩
def fitW (o : OpV) : Bool := decide (o.2.2.length ≤ 20) && o.2.2.all fitC
def sizeV (l : List OpV) : Nat := (l.map fun o => sizeC o.2.2).sum
def fitV (l : List OpV) : Bool := decide (l.length ≤ 100) && l.all fitW && decide (sizeV l ≤ 600000)
theorem sizeV_take {l : List OpV} {k : Nat} (hk : k < l.length) : sizeV (l.take (k + 1)) = sizeV (l.take k) + sizeC l[k].2.2 := by
  rw [List.take_succ_eq_append_getElem hk]
  simp only [sizeV, List.map_append, List.sum_append, List.map_cons, List.map_nil, List.sum_cons, List.sum_nil, Nat.add_zero]
theorem sizeV_le (l : List OpV) (k : Nat) : sizeV (l.take k) ≤ sizeV l := by
  have h := List.take_append_drop k l
  have : sizeV l = sizeV (l.take k) + sizeV (l.drop k) := by
    conv => lhs; rw [← h]
    simp only [sizeV, List.map_append, List.sum_append]
  omega
theorem fitV_len {l : List OpV} (h : ¬ l.length ≤ 100) : fitV l = false := by simp [fitV, h]
theorem fitV_op {l : List OpV} {o : OpV} (ho : o ∈ l) (h : fitW o = false) : fitV l = false := by
  have : l.all fitW = false := List.all_eq_false.2 ⟨o, ho, by simp [h]⟩
  rw [fitV, this]
  simp
theorem fitV_size {l : List OpV} (h : 600000 < sizeV l) : fitV l = false := by
  have : decide (sizeV l ≤ 600000) = false := decide_eq_false (by omega)
  rw [fitV, this]
  simp
theorem fitW_chg {o : OpV} {c : ChgD} (hc : c ∈ o.2.2) (h : fitC c = false) : fitW o = false := by
  have : o.2.2.all fitC = false := List.all_eq_false.2 ⟨c, hc, by simp [h]⟩
  rw [fitW, this]
  simp
theorem fitV_yes {l : List OpV} (h1 : l.length ≤ 100) (h2 : ∀ o ∈ l, fitW o = true) (h3 : sizeV l ≤ 600000) : fitV l = true := by
  rw [fitV, decide_eq_true h1, decide_eq_true h3, List.all_eq_true.2 h2]
  rfl
theorem fitW_yes {o : OpV} (h1 : o.2.2.length ≤ 20) (h3 : ∀ c ∈ o.2.2, fitC c = true) : fitW o = true := by
  rw [fitW, decide_eq_true h1, List.all_eq_true.2 h3]
  rfl
theorem fitV_out {l : List OpV} (h : fitV l = true) : l.length ≤ 100 ∧ (∀ o ∈ l, o.2.2.length ≤ 20 ∧ ∀ c ∈ o.2.2, c.1.size ≤ 200 ∧ c.2.1.length ≤ 300000) ∧ sizeV l ≤ 600000 := by
  simp only [fitV, Bool.and_eq_true, decide_eq_true_eq, List.all_eq_true, fitW, fitC] at h
  exact ⟨h.1.1, fun o ho => ⟨(h.1.2 o ho).1, fun c hc => (h.1.2 o ho).2 c hc⟩, h.2⟩
end Go.Proofs.YtdbacepjaibaoaaDoor
