/-
  conf: ConfMost, in plain Lean.
-/
import Derived.Test.YtddnfooachibiaaGreatDoorConfText
set_option linter.unusedVariables false
set_option linter.unusedSimpArgs false
namespace Go.Proofs.YtddnfooachibiaaGreatDoor
open Go
def modL (i : Nat) : List UInt8 := [91, 109, UInt8.ofNat (97 + i), 93, 10, 114, 111, 111, 116, 32, 61, 32, 114, UInt8.ofNat (97 + i), 10]
def usrL (i : Nat) : List UInt8 := [117, 115, 101, 114, 32, 61, 32, 117, UInt8.ofNat (97 + i), 58, 120, 10]
def mostL (m u : Nat) : List UInt8 := (List.range m).flatMap modL ++ (List.range u).flatMap usrL
def mostOk (m u : Nat) : Bool := match parseC (bA (mostL m u)) with
  | (.nil, ms) => decide (m ≤ 8) && decide (u ≤ 8) && decide (ms.length = m) && decide (ms.getLast?.map (fun x => x.us.length) = some u)
  | (.fault p e, _) => decide (e = 3) && ((decide (8 < m) && decide (p = 16)) || (decide (m ≤ 8) && decide (8 < u) && decide (p = 2 * (m : Int) + 8)))
  | _ => false
set_option maxRecDepth 100000 in
theorem most_all : ((List.range 10).all fun m => (List.range 11).all fun u => mostOk (m + 1) u) = true := by kernel_rfl
theorem most_ok {m u : Nat} (h1 : 1 ≤ m) (h2 : m ≤ 10) (h3 : u ≤ 10) : mostOk m u = true := by
  have h4 := List.all_eq_true.1 most_all (m - 1) (List.mem_range.2 (by omega))
  have h5 := List.all_eq_true.1 h4 u (List.mem_range.2 (by omega))
  have e : m - 1 + 1 = m := by omega
  rw [e] at h5
  exact h5
end Go.Proofs.YtddnfooachibiaaGreatDoor
