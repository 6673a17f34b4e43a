/-
  (*Tree).Forget, walked.
-/
import Derived.Test.YtkplkienbgoofaaDoorForgetQ
import Derived.Deep.LoopGhost
import Derived.Deep.CutRange
import Derived.Outline
set_option linter.unusedVariables false
set_option linter.unusedSimpArgs false
namespace Go.Proofs.YtkplkienbgoofaaDoor
open Go.RowKit Go.Maps Go.WideMaps Go.WideAt
open Go.Proofs.YtkplkienbgoofaaDoorW.PrintWords (Kd ReadsRow)
/-- Is a state needed, as far as one has looked? -/
def needJ (now : Int) (keep : List Int) (to0 ver : Int) (j : Nat) : Bool := (to0 == now) || (keep.take j).any fun v => decide (ver ≤ v) && decide (v ≤ to0)
theorem needJ_on {now : Int} {keep : List Int} {to0 ver : Int} {j : Nat} (hj : j < keep.length) : needJ now keep to0 ver (j + 1) = (needJ now keep to0 ver j || (decide (ver ≤ keep[j]) && decide (keep[j] ≤ to0))) := by
  unfold needJ
  rw [List.take_succ_eq_append_getElem hj, List.any_append, Bool.or_assoc]
  simp
theorem needJ_all {now : Int} {keep : List Int} {s : SRow} {rest : List SRow} : needJ now keep (toR now rest) s.ver keep.length = needR now keep s rest := by
  unfold needJ needR
  rw [List.take_length]
  congr 1
theorem RangeAs.congr {w : World} {P : Program} {k : TypeId} {b r n : Nat} {m m' : Lit → Option Value} {left left' : Lit → Bool} {cnt : Nat} (h : RangeAs w P k b r n m left cnt) (he : ∀ kl, m kl = m' kl) (hl : left = left') : RangeAs w P k b r n m' left' cnt := by
  have e : m = m' := funext he
  rw [← e, ← hl]
  exact h
theorem key_path {F : List FileS} {now : Int} {keep : List Int} {left : Lit → Bool} {V : ByteArray → Value} (ho : (F.map FileS.path).Nodup) {x : ByteArray} {c : Value} (hl : left (keyS x) = true) (h : lookF (stepF now keep left V F) (keyS x) = some c) : ∃ f, fileOf F x = some f ∧ f.val = c := by
  rw [lookF_key, fileOf_step ho] at h
  cases hf : fileOf F x with
  | none => rw [hf] at h; cases h
  | some f =>
    rw [hf] at h
    have e : stepOne now keep left V f = some f := stepOne_left (by rw [(file_mem hf).2]; exact hl)
    change Option.map FileS.val (stepOne now keep left V f) = some c at h
    rw [e] at h
    exact ⟨f, rfl, Option.some.inj h⟩
end Go.Proofs.YtkplkienbgoofaaDoor
