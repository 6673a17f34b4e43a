/-
  The law PathLimits: what the text that it makes comes to, in plain Lean.
-/
import Derived.Test.YtkhnfepnapgfaaaDoorPathPlain
import Derived.Lib.RepeatB
set_option linter.unusedVariables false
set_option linter.unusedSimpArgs false
namespace Go.Proofs.YtkhnfepnapgfaaaDoor
/-- So many bytes 'a'. -/
def repA (z : Nat) : ByteArray := ⟨(Lib.repeatL [97] z).toArray⟩
/-- The text behind k rounds. -/
def limS (z : Nat) : Nat → ByteArray
  | 0 => ⟨#[]⟩
  | k + 1 => if k = 0 then limS z k ++ repA z else limS z k ++ ⟨#[47]⟩ ++ repA z
def limL (z : Nat) : Nat → List UInt8
  | 0 => []
  | k + 1 => if k = 0 then limL z k ++ Lib.repeatL [97] z else limL z k ++ [47] ++ Lib.repeatL [97] z
theorem limS_data (z : Nat) : ∀ k, (limS z k).data.toList = limL z k
  | 0 => rfl
  | k + 1 => by
    unfold limS limL
    split <;> simp [limS_data z k, repA]
/-- checkB, on lists. -/
def checkL (l : List UInt8) : Option Nat := if l.isEmpty || decide (64 < l.length) then some (min l.length 64) else partsBad 0 0 (splitSlash l)
theorem checkB_list (s : ByteArray) : checkB s = checkL s.data.toList := by
  unfold checkB checkL
  rw [segs_list]
  rfl
theorem limL_length (z : Nat) : ∀ k, (limL z k).length = if k = 0 then 0 else k * z + (k - 1)
  | 0 => rfl
  | k + 1 => by
    have h : (Lib.repeatL [97] z).length = z := by rw [Lib.repeatL_length]; simp
    unfold limL
    by_cases h0 : k = 0
    · subst h0; simp [h, limL]
    · simp only [h0, if_false, List.length_append, limL_length z k, h]
      simp [Nat.add_mul]
      omega
/-- What PathLimits wants of a depth and a size. -/
def limWant (d z : Nat) : Option Nat := if 64 < d * z + (d - 1) then some 64 else if 16 < z then some 0 else if 6 < d then some (6 * (z + 1)) else none
theorem lim_all : ((List.range 8).all fun d => (List.range 18).all fun z => checkL (limL (z + 1) (d + 1)) == limWant (d + 1) (z + 1)) = true := by decide +kernel
theorem lim_check (d z : Nat) (hd : 1 ≤ d) (hd8 : d ≤ 8) (hz : 1 ≤ z) (hz18 : z ≤ 18) : checkB (limS z d) = limWant d z := by
  have h := lim_all
  rw [List.all_eq_true] at h
  have h1 := h (d - 1) (List.mem_range.2 (by omega))
  rw [List.all_eq_true] at h1
  have h2 := h1 (z - 1) (List.mem_range.2 (by omega))
  rw [beq_iff_eq, Nat.sub_add_cancel hd, Nat.sub_add_cancel hz] at h2
  rw [checkB_list, limS_data, h2]
theorem limS_size (z k : Nat) : (limS z k).size = if k = 0 then 0 else k * z + (k - 1) := by rw [← size_len, limS_data, limL_length]
theorem repA_size (z : Nat) : (repA z).size = z := by
  have h : (Lib.repeatL [97] z).length = z := by rw [Lib.repeatL_length]; simp
  exact h
end Go.Proofs.YtkhnfepnapgfaaaDoor
