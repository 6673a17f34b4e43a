/-
  The reference's digits.
-/
import Derived.Test.YtddnfooachibiaaGreatDoorConfTextW
import Derived.Laws.IdiomStrings
set_option linter.unusedVariables false
set_option linter.unusedSimpArgs false
namespace Go.Proofs.YtddnfooachibiaaGreatDoor
open Go.RowKit Go.Maps Go.WideMaps Go.WideAt
theorem conv_one (x : Int) (g : Nat) (W : World) (h : W.heap[g]? = some (Obj.cells #[.int .u8 x] 5 (0, 0))) : (convert 56 9 (.slice (some ⟨g, 0, none⟩) 1 1)).run Tryz.prog W = .ok (.string (strOfNums [x])) W :=
  run_convert_bytes_arg _ 56 5 Tryz.underlying56 Tryz.underlying5 g 0 1 1 [x] rfl (fun i hi => by
    obtain rfl : i = 0 := by omega
    show W.cell? ⟨g, 0, none⟩ = _
    rw [cell_of_row _ _ 0 _ _ _ h]
    rfl) 9 Tryz.underlying9
theorem conv_new (x : Int) (W : World) : (convert 56 9 (.slice (some ⟨W.heap.size, 0, none⟩) 1 1)).run Tryz.prog (W.alloc (.cells #[.int .u8 x] 5)) = .ok (.string (strOfNums [x])) (W.alloc (.cells #[.int .u8 x] 5)) := conv_one x _ _ (heap_alloc_new W _)
theorem dig_one (k : Nat) (h : k < 10) : (strOfNums [48 + (k : Int)]).data.toList = [UInt8.ofNat (48 + k)] := by
  have e : (48 + (k : Int)).toNat = 48 + k := by omega
  simp [strOfNums, e]
set_option maxRecDepth 100000 in
set_option maxHeartbeats 2000000 in
theorem digits_one (n : Nat) (w : World) (h10 : n < 10) : Calls Tryz.prog 40 #[.int .i64 n] w fun e w' => e = .returned (.string (bA (Lib.decDigits n))) ∧ Below w.heap.size w w' := by
  have b1 : (n : Int) < 10 := by omega
  have hw1 : IntKind.i64.wrap (48 + (n : Int)) = 48 + (n : Int) := IntWalk.i64_in _ (by omega)
  have hw2 : IntKind.u8.wrap (48 + (n : Int)) = 48 + (n : Int) := by
    simp [IntKind.wrap, IntKind.signed, IntKind.bits]; omega
  have hcv := conv_new
  have hb := below_one w (.cells #[.int .u8 (48 + (n : Int))] 5)
  have HB := Lib.hid hb
  have HR : Hid (strOfNums [48 + (n : Int)] = bA (Lib.decDigits n)) := Lib.hid (by
    rw [Lib.decDigits.eq_1, dif_pos h10, ← dig_one n h10]; rfl)
  clear h10 hb
  go_enter Tryz.func40, Tryz.ntmps40
  go_wp2_with fail
  go_ret
  exact ⟨by rw [HR.out]; rfl, HB.out⟩
set_option maxRecDepth 100000 in
set_option maxHeartbeats 2000000 in
theorem digits_any : ∀ (f n : Nat) (w : World), n < 10 ^ (f + 1) → f ≤ 8 → Calls Tryz.prog 40 #[.int .i64 n] w fun e w' => e = .returned (.string (bA (Lib.decDigits n))) ∧ Below w.heap.size w w' := by
  intro f
  induction f with
  | zero =>
    intro n w hn _
    exact digits_one n w (by simpa using hn)
  | succ f ih =>
    intro n w hn hf
    by_cases h10 : n < 10
    · exact digits_one n w h10
    · have HD : Hid (∀ W, Calls Tryz.prog 40 #[.int .i64 (n / 10 : Nat)] W fun e w' => e = .returned (.string (bA (Lib.decDigits (n / 10)))) ∧ Below W.heap.size W w') := Lib.hid (fun W => ih (n / 10) W (by rw [Nat.pow_succ] at hn; omega) (by omega))
      have hlen := dd_len (f + 1) (n / 10) (by omega) (by rw [Nat.pow_succ] at hn; omega)
      obtain ⟨m, hm⟩ : ∃ m, m = n / 10 := ⟨_, rfl⟩
      obtain ⟨r, hr⟩ : ∃ r, r = n % 10 := ⟨_, rfl⟩
      have hr10 : r < 10 := by omega
      obtain ⟨dv, hdv⟩ : ∃ x, x = bA (Lib.decDigits m) := ⟨_, rfl⟩
      have hdz : dv.size ≤ 9 := by rw [hdv, bA_size, hm]; omega
      have HDV := Lib.hid hdv
      have hr1 : ((n : Int) % 10) = (r : Int) := by omega
      have hr2 : (n : Int).tmod 10 = (r : Int) := by rw [Int.tmod_eq_emod_of_nonneg (by omega)]; omega
      have hq1 : ((n : Int) / 10) = (m : Int) := by omega
      have hq2 : (n : Int).tdiv 10 = (m : Int) := by rw [Int.tdiv_eq_ediv_of_nonneg (by omega)]; omega
      have hw0 : IntKind.i64.wrap (m : Int) = (m : Int) := IntWalk.i64_in _ (by
        have : n < 10 ^ 10 := Nat.lt_of_lt_of_le hn (Nat.pow_le_pow_right (by decide) (by omega))
        omega)
      have hw1 : IntKind.i64.wrap (48 + (r : Int)) = 48 + (r : Int) := IntWalk.i64_in _ (by omega)
      have hw2 : IntKind.u8.wrap (48 + (r : Int)) = 48 + (r : Int) := by
        simp [IntKind.wrap, IntKind.signed, IntKind.bits]; omega
      have b1 : ¬ (n : Int) < 10 := by omega
      have hcv := conv_new
      have hcv3 : (convert 56 9 (.slice (some ⟨w.heap.size, 0, none⟩) 1 1)).run Tryz.prog (w.alloc (.cells #[.int .u8 (48 + (r : Int))] 5)).drew = .ok (.string (strOfNums [48 + (r : Int)])) (w.alloc (.cells #[.int .u8 (48 + (r : Int))] 5)).drew := conv_one _ _ _ (heap_alloc_new w _)
      have HR : Hid (dv ++ strOfNums [48 + (r : Int)] = bA (Lib.decDigits n)) := Lib.hid (by
        rw [Lib.decDigits.eq_1, dif_neg h10, ← hm, ← hr, ← dig_one r hr10, ← bA_self (dv ++ strOfNums [48 + (r : Int)]), ByteArray.data_append, Array.toList_append, hdv]
        rfl)
      have hsz1 : (strOfNums [48 + (r : Int)]).size = 1 := by rw [strOfNums_size]; rfl
      have hadd : ∀ W : World, (Op.stringOp BinOp.add dv (strOfNums [48 + (r : Int)])).run Tryz.prog W = .ok (.string (dv ++ strOfNums [48 + (r : Int)])) W := fun W => run_string_add_sum W _ _ (by omega)
      rw [← hm, ← hdv] at HD
      clear hn hf h10 ih hlen hm hr hdv
      go_enter Tryz.func40, Tryz.ntmps40
      go_upto_region 3 with fail
      go_region_with
        (first
          | (go_at_call 40
             refine (HD.out _).mono ?_
             rintro e w2 ⟨rfl, hb2⟩
             have HB2 : Hid (Below w.heap.size w w2) := (by first
               | exact Lib.hid (below_from (Below.refl _ _).drew hb2)
               | exact Lib.hid (below_from (below_one w (.cells #[.int .u8 (48 + (r : Int))] 5)).drew hb2))
             have hcv2 : (convert 56 9 (.slice (some ⟨w.heap.size, 0, none⟩) 1 1)).run Tryz.prog w2 = .ok (.string (strOfNums [48 + (r : Int)])) w2 := (by first
               | exact conv_one _ _ _ (block_below (show (w.alloc (.cells #[.int .u8 (48 + (r : Int))] 5)).drew.heap[w.heap.size]? = _ from heap_alloc_new w _) hb2)
               | exact fail)
             clear hb2)
          | (go_at_call 40
             refine (HD.out _).mono ?_
             rintro e w2 ⟨rfl, hb2⟩
             have HB2 : Hid (Below w.heap.size w w2) := Lib.hid (below_from (Below.refl _ _).drew hb2)
             clear hb2))
      all_goals
        go_wp2_with fail
        go_ret
        refine ⟨?_, ?_⟩
        · rw [← HR.out]
          rfl
        · first
            | exact HB2.out
            | exact below_from HB2.out (below_one w2 _)
end Go.Proofs.YtddnfooachibiaaGreatDoor
