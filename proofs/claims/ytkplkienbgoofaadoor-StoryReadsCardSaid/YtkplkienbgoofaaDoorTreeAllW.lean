/-
  The law TreeAll, walked.
-/
import Derived.Test.YtkplkienbgoofaaDoorTreeFits
import Derived.Test.YtkplkienbgoofaaDoorForgetP
import Derived.Outline
set_option linter.unusedVariables false
set_option linter.unusedSimpArgs false
namespace Go.Proofs.YtkplkienbgoofaaDoor
open Go.RowKit Go.Maps Go.WideMaps Go.WideAt
open Go.Proofs.YtkplkienbgoofaaDoorW.PrintWords (Kd ReadsRow)
/-- An argument that is changes. -/
def ChgArg (x : ChgD) : Prop := x.1.size ≤ maxLen ∧ (∀ y ∈ x.2.1, (Lit.int .u8 y).wf = true) ∧ True
structure Fits1 (l : List ChgD) : Prop where
  len : l.length ≤ 80
  good : ∀ c ∈ l, GoodC c
theorem fits1_of {l : List OpT} (h : fitT l = true) {o : OpT} (ho : o ∈ l) (hg : ∀ x ∈ o.2.1, ChgArg x) : Fits1 o.2.1 := by
  obtain ⟨_, h2, _⟩ := fitT_out h
  obtain ⟨a, _, b⟩ := h2 o ho
  exact ⟨a, fun c hc => ⟨by have := (b c hc).1; omega, (hg c hc).2.1, (b c hc).2⟩⟩
theorem chkT_once {now : Nat} {F : List FileS} {l : List ChgD} (h : chkT now F l = .nil) : (l.map (·.1)).Nodup ∧ (∀ c ∈ l, checkB c.1 = none) ∧ (∀ c ∈ l, c.2.2 = true → c.2.1 = []) := by
  unfold chkT at h
  split at h
  · cases h
  · rename_i af n hgo
    obtain ⟨a, _, b, c⟩ := chkGo_once hgo
    exact ⟨a, b, c⟩
theorem rise_top {now : Int} {F : List FileS} (h : RiseF now F) {v v' : Int} (h1 : now ≤ v) (h2 : now ≤ v') (p : ByteArray) : atRow F v p = atRow F v' p :=
  atRow_top (fun f hf r hr => ⟨by have := ((h f hf).2 r hr).2; omega, by have := ((h f hf).2 r hr).2; omega⟩) p
theorem list_len (now : Nat) (F : List FileS) (v : Int) (root : ByteArray) : (listT now F v root).1.length ≤ F.length := by
  rw [listT]
  split
  · simp
  · rw [sortB_len]
    exact Nat.le_trans (List.length_filter_le _ _) (by simp)
theorem list_there {now : Nat} {F : List FileS} {v : Int} {root q : ByteArray} (h : q ∈ (listT now F v root).1) : q ∈ F.map FileS.path ∧ ∃ d, readT now F v q = (d, 0) := by
  by_cases hv : v < 0 ∨ (now : Int) < v
  · rw [listT, if_pos hv] at h
    cases h
  · rw [list_mem (by omega) (by omega)] at h
    refine ⟨h.1, ?_⟩
    have h2 := h.2.2
    unfold thereB at h2
    rw [readT, if_neg hv]
    cases hr : atRow F v q with
    | none => rw [hr] at h2; cases h2
    | some r =>
      rw [hr] at h2
      have hg : r.gone = false := by simpa using h2
      exact ⟨r.data, by simp [hg]⟩
theorem read_elder {n now now' B : Nat} {F F' : List FileS} {l : List ChgD} (h : Puts n B F l F') {ver : Int} (hv : ver < n) (h0 : 0 ≤ ver) (h1 : ver ≤ now) (h1' : ver ≤ now') (q : ByteArray) : readT now' F' ver q = readT now F ver q := by
  rw [readT, readT, if_neg (by omega), if_neg (by omega), puts_old h hv]
theorem read_else {now B : Nat} {F F' : List FileS} {l : List ChgD} (h : Puts (now + 1) B F l F') (hr : RiseF now F) {q : ByteArray} (hq : q ∉ l.map (·.1)) : readT (now + 1) F' ((now : Int) + 1) q = readT now F now q := by
  rw [readT, readT, if_neg (by omega), if_neg (by omega), puts_not h hq, rise_top hr (show (now : Int) ≤ (now : Int) + 1 by omega) (Int.le_refl _)]
end Go.Proofs.YtkplkienbgoofaaDoor
