/-
  The laws' 'grows'; commits in the forms in which the laws use them.
-/
import Derived.Test.YtkplkienbgoofaaDoorTreePlain
import Derived.Lib.SmallJoins
import Derived.Laws.IdiomStrings
set_option linter.unusedVariables false
set_option linter.unusedSimpArgs false
namespace Go.Proofs.YtkplkienbgoofaaDoor
open Go.RowKit Go.Maps Go.WideMaps Go.WideAt
open Go.Proofs.YtkplkienbgoofaaDoorW.PrintWords (Kd ReadsRow)
theorem conv_row {W : World} {A : Option Addr} {l : List Int} (c : Nat) (h : ByteRow W A l) (hA : A = none → l.length = 0) : (convert 40 9 (.slice A l.length c)).run Tryd.prog W = .ok (.string (strOfNums l)) W := by
  cases A with
  | none =>
    obtain rfl : l = [] := List.length_eq_zero_iff.1 (hA rfl)
    exact run_convert_bytes_nil W 40 5 Tryd.underlying40 Tryd.underlying5 0 c 9 Tryd.underlying9
  | some ad =>
    by_cases h0 : l = []
    · subst h0
      exact run_convert_bytes_back W 40 9 5 ad c [] Tryd.underlying40 Tryd.underlying5 Tryd.underlying9 (fun j hj => by simp at hj)
    · have hl : 0 < l.length := List.length_pos_iff.2 h0
      have hc : ∀ i, i < l.length → W.cell? (ad.add i) = some (.int .u8 (l.getD i 0)) := fun i hi => h ad rfl i _ (by simp [u8V, List.getD, hi])
      obtain ⟨b, off, spot⟩ := ad
      have hs : spot = none := by
        have := World.cell?_spot (hc 0 hl)
        simpa [Addr.add] using this
      subst hs
      exact run_convert_bytes_arg W 40 5 Tryd.underlying40 Tryd.underlying5 b off l.length c l rfl (fun i hi => by
        have := hc i hi
        rw [Addr.add_lit] at this
        exact this) 9 Tryd.underlying9
theorem good_one (p : ByteArray) (d : List Int) (gn : Bool) (hp : p.size ≤ 140737488351232) (hd : ∀ x ∈ d, (Lit.int .u8 x).wf = true) (hl : d.length ≤ 300000) : ∀ x ∈ [(p, d, gn)], GoodC x := fun x hx => by
  rw [List.mem_singleton.1 hx]
  exact ⟨hp, hd, hl⟩
theorem path_a : checkB ⟨#[97]⟩ = none := by decide
theorem wf_x (k : Nat) (hk : k < 256) : ∀ x ∈ [(k : Int)], (Lit.int .u8 x).wf = true := fun x hx => by
  rw [List.mem_singleton.1 hx]
  simp [Lit.wf, IntKind.min, IntKind.max, IntKind.signed, IntKind.bits]
  omega
def litW (W : World) (p : ByteArray) (x : Int) : World := (W.alloc (.cells #[.int .u8 x] 5 (1, 2))).alloc (.cells #[.string p, .slice (some ⟨W.heap.size, 0, none⟩) 1 1, .bool false] 42)
theorem lit_below (W : World) (p : ByteArray) (x : Int) : Below W.heap.size W (litW W p x) := below_from (below_one W _) (below_one _ _)
theorem lit_read {n B now : Nat} {F F' : List FileS} {p : ByteArray} {d : List Int} (h : Puts n B F [(p, d, false)] F') {ver : Int} (hv : (n : Int) ≤ ver) (hnow : ver ≤ now) : readT now F' ver p = (d, 0) := by
  have := puts_read (c := (p, d, false)) h (by simp) (by simp) hv hnow
  simpa using this
end Go.Proofs.YtkplkienbgoofaaDoor
