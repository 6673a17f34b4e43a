/-
  slices.Clone at bytes; (*Tree).Read, Now.
-/
import Derived.Test.YtkplkienbgoofaaDoorTree
import Derived.Lib.SliceRun
set_option linter.unusedVariables false
set_option linter.unusedSimpArgs false
namespace Go.Proofs.YtkplkienbgoofaaDoor
open Go.RowKit Go.Maps Go.WideMaps
open Go.Proofs.YtkplkienbgoofaaDoorW.PrintWords (Kd ReadsRow)
/-- Bytes that are read. -/
def ByteRow (w : World) (A : Option Addr) (l : List Int) : Prop := ∀ ad, A = some ad → ∀ j u, (u8V l)[j]? = some u → w.cell? (ad.add j) = some u
theorem ByteRow.below {w w' : World} {A : Option Addr} {l : List Int} (h : ByteRow w A l) (hb : Below w.heap.size w w') : ByteRow w' A l := fun ad e j u hj => cell_below hb (h ad e j u hj)
theorem u8V_one (l : List Int) : ∀ u ∈ u8V l, u.oneCell' = true := fun u hu => by
  obtain ⟨x, _, rfl⟩ := List.mem_map.1 hu
  rfl
theorem infoU8 : (Tryd.prog.info? 5).map (fun i => (i.zero, i.size, i.bytes)) = some (some (.int .u8 0), 1, 1) := by kernel_rfl
theorem own_bytes {w : World} {base : Nat} {v : Value} {l : List Int} (h : w.ownsRow base 5 1 v l.length (u8V l)) : ∃ A c, v = .slice A l.length c ∧ l.length ≤ c ∧ ByteRow w A l ∧ (A = none → l.length = 0) := by
  have h' := h
  rcases h.2 with ⟨rfl, h0⟩ | ⟨g, cap, cur, rfl, _, _, hc, _⟩
  · exact ⟨none, 0, by rw [h0], by omega, (fun ad e => by cases e), fun _ => h0⟩
  · refine ⟨_, cap, rfl, hc, fun ad e j u hj => ?_, (fun e => by cases e)⟩
    cases e
    rw [Addr.add_lit, Nat.zero_add]
    have hlt := (List.getElem?_eq_some_iff.1 hj).1
    have hl : (u8V l).length = l.length := by simp [u8V]
    exact (h'.cellAt j (by omega)).trans hj
/-- What a file reads as at a version, and the error's number. -/
def readT (now : Nat) (F : List FileS) (v : Int) (p : ByteArray) : List Int × Int :=
  if v < 0 ∨ (now : Int) < v then ([], 1) else match atRow F v p with
    | some r => if r.gone then ([], 4) else (r.data, 0)
    | none => ([], 4)
theorem lastK_mem {rows : List SRow} {v : Int} {r : SRow} : ∀ k, k ≤ rows.length → lastK rows v k = some r → r ∈ rows
  | 0, _, h => by cases h
  | k + 1, hk, h => by
    rw [lastK] at h
    split at h
    · injection h with h
      have : rows.getD k zS = rows[k] := by simp [List.getD, show k < rows.length by omega]
      rw [← h, this]
      exact List.getElem_mem _
    · exact lastK_mem k (by omega) h
theorem atRow_mem {F : List FileS} {v : Int} {p : ByteArray} {r : SRow} (h : atRow F v p = some r) : ∃ f ∈ F, r ∈ f.rows := by
  unfold atRow at h
  cases hf : fileOf F p with
  | none => rw [hf] at h; cases h
  | some f =>
    rw [hf] at h
    exact ⟨f, (file_mem hf).1, lastK_mem _ (Nat.le_refl _) h⟩
end Go.Proofs.YtkplkienbgoofaaDoor
