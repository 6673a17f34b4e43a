/-
  The law PathLimits, walked.
-/
import Derived.Test.YtkhnfepnapgfaaaDoorPathHead
import Derived.Test.YtkhnfepnapgfaaaDoorLimPlain
import Derived.BigFrame
import Derived.Test.YtkhnfepnapgfaaaDoorPathPlain
import Derived.Test.YtkhnfepnapgfaaaDoorShelf
import Derived.WalkKit
import Derived.Outline
import Derived.LaidEql
import Derived.Below
import Derived.WalkLawsBesides
import Derived.WalkSpells
import Derived.Deep.QuietTactic
import Derived.BigQuiet
import Derived.Deep.LoopGhost
import Derived.Lib.Hide
set_option linter.unusedVariables false
set_option linter.unusedSimpArgs false
namespace Go.Proofs.YtkhnfepnapgfaaaDoor
open Go.RowKit

theorem ret_true {b : Bool} (h : b = true) : Ending.returned (.bool b) = .returned (.bool true) := by rw [h]
theorem repeat_a (z : Nat) (hz : z ≤ 18) (w : World) : Calls Tryd.prog 43 #[.string ⟨#[97]⟩, .int .i64 z] w fun e w' => e = .returned (.string (repA z)) ∧ Below w.heap.size w w' :=
  Tryd.strings_Repeat ⟨#[97]⟩ z w (by omega) (by show 1 * z ≤ _; omega)
set_option maxRecDepth 100000 in
set_option maxHeartbeats 2000000 in
theorem pathLimits_in (d z : Nat) (w : World) (hd : 1 ≤ d) (hd8 : d ≤ 8) (hz : 1 ≤ z) (hz18 : z ≤ 18) (hg : Env w) : Calls Tryd.prog 14 #[.int .i64 d, .int .i64 z] w fun e w' => e = .returned (.bool true) ∧ Below w.heap.size w w' := by
  have HK := Lib.hid (checks_any w hg)
  have HG := Lib.hid hg
  clear hg
  have c1 : decide ((d : Int) < 1) = false := by simp; omega
  have c2 : decide ((8 : Int) < d) = false := by simp; omega
  have c3 : decide ((z : Int) < 1) = false := by simp; omega
  have c4 : decide ((18 : Int) < z) = false := by simp; omega
  go_enter Tryd.func14, Tryd.ntmps14
  go_wp2_with fail
  refine HK.out.mono ?_
  rintro e w1 ⟨rfl, hb1⟩
  have HG1 := Lib.hid (HG.out.below hb1)
  go_wp2_with fail
  go_loopw [5, 25] (fun s i wr => ∃ k : Nat, k ≤ d ∧ i = .int .i64 k ∧ s = .string (limS z k) ∧ Below w1.heap.size w1 wr) (fun _ i _ => d - (intOf i).toNat)
  case atStart => exact ⟨0, by omega, rfl, rfl, Below.refl _ _⟩
  case round =>
    obtain ⟨k, hk, rfl, rfl, hb⟩ := hrel
    by_cases hlt : k < d
    · have hsz : (limS z k).size ≤ 200 := by
        rw [limS_size]
        split
        · omega
        · have : k * z ≤ 8 * 18 := Nat.mul_le_mul (by omega) (by omega)
          omega
      have hrz : (repA z).size = z := repA_size z
      have hrz2 : (repA z).size ≤ 18 := by omega
      have a1 : (limS z k).size + 1 ≤ 9223372036854775807 := by omega
      have a2 : (limS z k).size + 1 + (repA z).size ≤ 9223372036854775807 := by omega
      have a3 : (limS z k).size + (repA z).size ≤ 9223372036854775807 := by omega
      have RP := Lib.hid (repeat_a z (by omega))
      clear hrz
      by_cases h0 : k = 0
      · have hs : limS z (k + 1) = limS z k ++ repA z := by rw [limS, if_pos h0]
        have HS := Lib.hid hs
        have h00 : ¬ (0 : Int) < k := by omega
        clear hs h0
        go_wp2_with fail
        refine (RP.out _).mono ?_
        rintro e w4 ⟨rfl, hb4⟩
        go_wp2
        go_roundw
        case rel => exact ⟨k + 1, by omega, by go_num, by rw [HS.out], below_from hb hb4⟩
        case measure => simp [intOf]; omega
      · have hs : limS z (k + 1) = limS z k ++ ⟨#[47]⟩ ++ repA z := by rw [limS, if_neg h0]
        have HS := Lib.hid hs
        have h00 : (0 : Int) < k := by omega
        clear hs h0
        go_wp2_with fail
        refine (RP.out _).mono ?_
        rintro e w4 ⟨rfl, hb4⟩
        go_wp2
        go_roundw
        case rel => exact ⟨k + 1, by omega, by go_num, by rw [HS.out], below_from hb hb4⟩
        case measure => simp [intOf]; omega
    · obtain rfl : k = d := by omega
      have HGr := Lib.hid (HG1.out.below hb)
      have hsz : ((limS z k).size : Int) = (k * z + (k - 1) : Nat) := by rw [limS_size, if_neg (by omega)]
      have hszl : (limS z k).size ≤ 140737488351232 := by
        rw [limS_size]
        split
        · omega
        · have : k * z ≤ 8 * 18 := Nat.mul_le_mul (by omega) (by omega)
          omega
      have hck := lim_check k z hd hd8 hz hz18
      clear hlt c1 c2 c3 c4
      by_cases g1 : 64 < k * z + (k - 1)
      · have hck2 : checkB (limS z k) = some 64 := by rw [hck, limWant, if_pos g1]
        have HC := Lib.hid hck2
        have g64 : (64 : Int) < (limS z k).size := by omega
        clear hck hck2 hsz g1
        go_wp2_with fail
        refine (check_bad _ 64 _ hszl HGr.out.ml HC.out).mono ?_
        rintro e w5 ⟨f, rfl, hf, hb5⟩
        have HF := Lib.hid hf
        have HG5 := Lib.hid (HGr.out.below hb5)
        clear hf
        go_wp2_with fail
        refine (place_fault f 64 90 _ HF.out HG5.out).mono ?_
        rintro e w6 ⟨rfl, hb6⟩
        go_wp2
        go_ret
        exact ⟨rfl, below_from (below_from (below_from hb1 hb) hb5) hb6⟩
      · have g64 : ¬ (64 : Int) < (limS z k).size := by omega
        by_cases g2 : 16 < z
        · have hck2 : checkB (limS z k) = some 0 := by rw [hck, limWant, if_neg g1, if_pos g2]
          have HC := Lib.hid hck2
          have g16 : (16 : Int) < z := by omega
          clear hck hck2 hsz g1 g2
          go_wp2_with fail
          refine (check_bad _ 0 _ hszl HGr.out.ml HC.out).mono ?_
          rintro e w5 ⟨f, rfl, hf, hb5⟩
          have HF := Lib.hid hf
          have HG5 := Lib.hid (HGr.out.below hb5)
          clear hf
          go_wp2_with fail
          refine (place_fault f 0 90 _ HF.out HG5.out).mono ?_
          rintro e w6 ⟨rfl, hb6⟩
          have HF6 := Lib.hid (HF.out.below hb6)
          go_wp2_with fail
          refine (is_fault f 0 90 90 _ HF6.out).mono ?_
          rintro e w6 ⟨rfl, rfl⟩
          go_wp2
          go_ret
          exact ⟨rfl, below_from (below_from (below_from hb1 hb) hb5) hb6⟩
        · have g16 : ¬ (16 : Int) < z := by omega
          by_cases g3 : 6 < k
          · have hck2 : checkB (limS z k) = some (6 * (z + 1)) := by rw [hck, limWant, if_neg g1, if_neg g2, if_pos g3]
            have HC := Lib.hid hck2
            have g6 : (6 : Int) < k := by omega
            clear hck hck2 hsz g1 g2 g3
            go_wp2_with fail
            refine (check_bad _ _ _ hszl HGr.out.ml HC.out).mono ?_
            rintro e w5 ⟨f, rfl, hf, hb5⟩
            have HF := Lib.hid hf
            have HG5 := Lib.hid (HGr.out.below hb5)
            clear hf
            go_wp2_with fail
            refine (place_fault f (6 * (z + 1) : Nat) 90 _ HF.out HG5.out).mono ?_
            rintro e w6 ⟨rfl, hb6⟩
            go_wp2
            go_ret
            exact ⟨ret_true (by simp), below_from (below_from (below_from hb1 hb) hb5) hb6⟩
          · have g6 : ¬ (6 : Int) < k := by omega
            have hck2 : checkB (limS z k) = none := by rw [hck, limWant, if_neg g1, if_neg g2, if_neg g3]
            have HC := Lib.hid hck2
            clear hck hck2 hsz g1 g2 g3
            go_wp2_with fail
            refine (check_ok _ _ hszl HGr.out.ml HC.out).mono ?_
            rintro e w5 ⟨rfl, hb5⟩
            go_wp2
            go_ret
            exact ⟨rfl, below_from (below_from hb1 hb) hb5⟩
set_option maxRecDepth 100000 in
theorem pathLimits_walk (d z : Int) (w : World) (_hd : (Lit.int .i64 d).wf = true) (_hz : (Lit.int .i64 z).wf = true) (hg : Env w) : Calls Tryd.prog 14 #[.int .i64 d, .int .i64 z] w fun e w' => e = .returned (.bool true) ∧ Below w.heap.size w w' := by
  by_cases h1 : d < 1
  · have HK := Lib.hid (checks_any w hg)
    clear hg
    have c0 : decide (d < 1) = true := by simp; omega
    go_enter Tryd.func14, Tryd.ntmps14
    go_wp2_with fail
    refine HK.out.mono ?_
    rintro e w1 ⟨rfl, hb1⟩
    go_wp2
    go_ret
    exact ⟨rfl, hb1⟩
  by_cases h2 : 8 < d
  · have HK := Lib.hid (checks_any w hg)
    clear hg
    have c0 : decide (d < 1) = false := by simp; omega
    have c1 : decide ((8 : Int) < d) = true := by simp; omega
    go_enter Tryd.func14, Tryd.ntmps14
    go_wp2_with fail
    refine HK.out.mono ?_
    rintro e w1 ⟨rfl, hb1⟩
    go_wp2
    go_ret
    exact ⟨rfl, hb1⟩
  by_cases h3 : z < 1
  · have HK := Lib.hid (checks_any w hg)
    clear hg
    have c0 : decide (d < 1) = false := by simp; omega
    have c1 : decide ((8 : Int) < d) = false := by simp; omega
    have c2 : decide (z < 1) = true := by simp; omega
    go_enter Tryd.func14, Tryd.ntmps14
    go_wp2_with fail
    refine HK.out.mono ?_
    rintro e w1 ⟨rfl, hb1⟩
    go_wp2
    go_ret
    exact ⟨rfl, hb1⟩
  by_cases h4 : 18 < z
  · have HK := Lib.hid (checks_any w hg)
    clear hg
    have c0 : decide (d < 1) = false := by simp; omega
    have c1 : decide ((8 : Int) < d) = false := by simp; omega
    have c2 : decide (z < 1) = false := by simp; omega
    have c3 : decide ((18 : Int) < z) = true := by simp; omega
    go_enter Tryd.func14, Tryd.ntmps14
    go_wp2_with fail
    refine HK.out.mono ?_
    rintro e w1 ⟨rfl, hb1⟩
    go_wp2
    go_ret
    exact ⟨rfl, hb1⟩
  obtain ⟨dn, rfl⟩ := Int.eq_ofNat_of_zero_le (show 0 ≤ d by omega)
  obtain ⟨zn, rfl⟩ := Int.eq_ofNat_of_zero_le (show 0 ≤ z by omega)
  exact pathLimits_in dn zn w (by omega) (by omega) (by omega) (by omega) hg
end Go.Proofs.YtkhnfepnapgfaaaDoor
