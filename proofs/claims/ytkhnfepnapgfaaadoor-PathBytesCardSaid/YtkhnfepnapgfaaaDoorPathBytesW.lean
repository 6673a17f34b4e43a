/-
  The law PathBytes, walked.
-/
import Derived.Test.YtkhnfepnapgfaaaDoorPathHead
import Derived.WalkKit
import Derived.Outline
import Derived.WalkLawsBesides
import Derived.WalkSpells
import Derived.Lib.Hide
import Derived.Laws.BytesArg
set_option linter.unusedVariables false
set_option linter.unusedSimpArgs false
namespace Go.Proofs.YtkhnfepnapgfaaaDoor
open Go.RowKit
/-! ### texts of one byte, and of two -/
theorem one_slash : partsBad 0 0 (splitSlash [47]) = some 0 := by decide
theorem one_plain (c : UInt8) (h : c ≠ 47) : partsBad 0 0 (splitSlash [c]) = if signB c && c != 46 then none else some 0 := by
  have h1 : splitSlash [c] = [[c]] := by simp [splitSlash, h, consHead]
  rw [h1]
  by_cases h2 : c = 46
  · subst h2; decide
  · have h3 : segNo [c] = false := by simp [segNo, h2]
    cases hs : signB c <;> simp [partsBad, h3, badAt, hs, h2]
theorem two_slash : partsBad 0 0 (splitSlash [97, 47]) = some 2 := by decide
theorem two_plain (c : UInt8) (h : c ≠ 47) : partsBad 0 0 (splitSlash [97, c]) = if signB c then none else some 1 := by
  have h1 : splitSlash [97, c] = [[97, c]] := by simp [splitSlash, h, consHead]
  have h3 : segNo [97, c] = false := by simp [segNo]
  have h4 : signB 97 = true := by decide
  rw [h1]
  cases hs : signB c <;> simp [partsBad, h3, badAt, hs, h4]
theorem checkB_one (x : Int) : checkB (strOfNums [x]) = partsBad 0 0 (splitSlash [UInt8.ofNat x.toNat]) := by
  rw [checkB_slash _ (by rw [strOfNums_size]; simp) (by rw [strOfNums_size]; simp), strOfNums_data]; rfl
theorem checkB_two (x : Int) : checkB (strOfNums [97, x]) = partsBad 0 0 (splitSlash [97, UInt8.ofNat x.toNat]) := by
  rw [checkB_slash _ (by rw [strOfNums_size]; simp) (by rw [strOfNums_size]; simp), strOfNums_data]; rfl
theorem byteOf (x : Int) (h0 : 0 ≤ x) (h1 : x ≤ 255) : ((UInt8.ofNat x.toNat).toNat : Int) = x := by
  rw [UInt8.toNat_ofNat']
  omega
theorem byte_ne {x : Int} (h0 : 0 ≤ x) (h1 : x ≤ 255) {k : UInt8} (h : x ≠ (k.toNat : Int)) : UInt8.ofNat x.toNat ≠ k := by
  intro e
  have := byteOf x h0 h1
  rw [e] at this
  exact h this.symm
theorem good_both (x : Int) (h0 : 0 ≤ x) (h1 : x ≤ 255) (h : (97 ≤ x ∧ x ≤ 122) ∨ (48 ≤ x ∧ x ≤ 57) ∨ x = 95 ∨ x = 45) : checkB (strOfNums [x]) = none ∧ checkB (strOfNums [97, x]) = none := by
  have hs : signB (UInt8.ofNat x.toNat) = true := (signB_iff _).2 (by rw [byteOf x h0 h1]; omega)
  have n1 : UInt8.ofNat x.toNat ≠ 47 := byte_ne h0 h1 (by show x ≠ 47; omega)
  have n2 : UInt8.ofNat x.toNat ≠ 46 := byte_ne h0 h1 (by show x ≠ 46; omega)
  rw [checkB_one, checkB_two, one_plain _ n1, two_plain _ n1, hs]
  simp [n2]
theorem dot_both : checkB (strOfNums [46]) = some 0 ∧ checkB (strOfNums [97, 46]) = none := by
  rw [checkB_one, checkB_two]; decide
theorem bad_both (x : Int) (h0 : 0 ≤ x) (h1 : x ≤ 255) (h : ¬((97 ≤ x ∧ x ≤ 122) ∨ (48 ≤ x ∧ x ≤ 57) ∨ x = 95 ∨ x = 45 ∨ x = 46)) : ∃ p q, checkB (strOfNums [x]) = some p ∧ checkB (strOfNums [97, x]) = some q := by
  rw [checkB_one, checkB_two]
  by_cases h47 : x = 47
  · subst h47; exact ⟨0, 2, by decide, by decide⟩
  · have n1 : UInt8.ofNat x.toNat ≠ 47 := byte_ne h0 h1 h47
    have hs : signB (UInt8.ofNat x.toNat) = false := by
      cases hb : signB (UInt8.ofNat x.toNat) with
      | false => rfl
      | true => exact absurd (by have := (signB_iff _).1 hb; rw [byteOf x h0 h1] at this; exact this) h
    exact ⟨0, 1, by rw [one_plain _ n1, hs]; rfl, by rw [two_plain _ n1, hs]; rfl⟩
theorem conv_one (x : Int) (W : World) : (convert 53 9 (.slice (some ⟨W.heap.size, 0, none⟩) 1 1)).run Tryd.prog (W.alloc (.cells #[.int .u8 x] 5)) = .ok (.string (strOfNums [x])) (W.alloc (.cells #[.int .u8 x] 5)) :=
  run_convert_bytes_arg _ 53 5 Tryd.underlying53 Tryd.underlying5 W.heap.size 0 1 1 [x] rfl (fun i hi => by
    obtain rfl : i = 0 := by omega
    simp) 9 Tryd.underlying9
theorem conv_two (x : Int) (W : World) : (convert 53 9 (.slice (some ⟨W.heap.size, 0, none⟩) 2 2)).run Tryd.prog (W.alloc (.cells #[.int .u8 97, .int .u8 x] 5)) = .ok (.string (strOfNums [97, x])) (W.alloc (.cells #[.int .u8 97, .int .u8 x] 5)) :=
  run_convert_bytes_arg _ 53 5 Tryd.underlying53 Tryd.underlying5 W.heap.size 0 2 2 [97, x] rfl (fun i hi => by
    have : i = 0 ∨ i = 1 := by omega
    rcases this with rfl | rfl <;> simp) 9 Tryd.underlying9
theorem size_two : ∀ x : Int, (strOfNums [97, x]).size ≤ 140737488351232 := fun x => by rw [strOfNums_size]; simp
theorem size_one : ∀ x : Int, (strOfNums [x]).size ≤ 140737488351232 := fun x => by rw [strOfNums_size]; simp
set_option maxRecDepth 100000 in
set_option maxHeartbeats 1000000 in
theorem pb_low (x : Int) (w : World) (h0 : 0 ≤ x) (h255 : x ≤ 255) (ha : 97 ≤ x) (hz : x ≤ 122) (hg : Env w) : Calls Tryd.prog 7 #[.int .u8 x] w fun e w' => e = .returned (.bool true) ∧ Below w.heap.size w w' := by
  have HK := Lib.hid (checks_any w hg)
  have HG := Lib.hid hg
  have hh := good_both x h0 h255 (by omega)
  have H1 := Lib.hid hh.1
  have H2 := Lib.hid hh.2
  clear hh
  have v1 := conv_one x
  have v2 := conv_two x
  clear hg
  have n95 : (x == 95) = false := by rw [beq_eq_false_iff_ne]; omega
  have n45 : (x == 45) = false := by rw [beq_eq_false_iff_ne]; omega
  have n46 : (x == 46) = false := by rw [beq_eq_false_iff_ne]; omega
  have d57 : decide (x ≤ 57) = false := by simp; omega
  have d122 : decide (x ≤ 122) = true := by simp; omega
  go_enter Tryd.func7, Tryd.ntmps7
  go_wp2_with fail
  refine HK.out.mono ?_
  rintro e w1 ⟨rfl, hb1⟩
  have HG1 := Lib.hid (HG.out.below hb1)
  have B1 := Lib.hid (below_one w1 (.cells #[.int .u8 x] 5))
  have G1a := Lib.hid (HG1.out.below B1.out)
  go_wp2_with fail
  refine (check_ok _ _ (size_one x) G1a.out.ml H1.out).mono ?_
  rintro e w2 ⟨rfl, hb2⟩
  have HG2 := Lib.hid (G1a.out.below hb2)
  have B2 := Lib.hid (below_one w2 (.cells #[.int .u8 97, .int .u8 x] 5))
  have G2a := Lib.hid (HG2.out.below B2.out)
  go_wp2_with fail
  refine (check_ok _ _ (size_two x) G2a.out.ml H2.out).mono ?_
  rintro e w3 ⟨rfl, hb3⟩
  have HG3 := Lib.hid (G2a.out.below hb3)
  go_wp2
  go_ret
  exact ⟨rfl, below_from (below_from hb1 (below_from B1.out hb2)) (below_from B2.out hb3)⟩
set_option maxRecDepth 100000 in
set_option maxHeartbeats 1000000 in
theorem pb_dig (x : Int) (w : World) (h0 : 0 ≤ x) (h255 : x ≤ 255) (ha : 48 ≤ x) (hz : x ≤ 57) (hg : Env w) : Calls Tryd.prog 7 #[.int .u8 x] w fun e w' => e = .returned (.bool true) ∧ Below w.heap.size w w' := by
  have HK := Lib.hid (checks_any w hg)
  have HG := Lib.hid hg
  have hh := good_both x h0 h255 (by omega)
  have H1 := Lib.hid hh.1
  have H2 := Lib.hid hh.2
  clear hh
  have v1 := conv_one x
  have v2 := conv_two x
  clear hg
  have n95 : (x == 95) = false := by rw [beq_eq_false_iff_ne]; omega
  have n45 : (x == 45) = false := by rw [beq_eq_false_iff_ne]; omega
  have n46 : (x == 46) = false := by rw [beq_eq_false_iff_ne]; omega
  have d57 : decide (x ≤ 57) = true := by simp; omega
  have d122 : decide (x ≤ 122) = true := by simp; omega
  go_enter Tryd.func7, Tryd.ntmps7
  go_wp2_with fail
  refine HK.out.mono ?_
  rintro e w1 ⟨rfl, hb1⟩
  have HG1 := Lib.hid (HG.out.below hb1)
  have B1 := Lib.hid (below_one w1 (.cells #[.int .u8 x] 5))
  have G1a := Lib.hid (HG1.out.below B1.out)
  go_wp2_with fail
  refine (check_ok _ _ (size_one x) G1a.out.ml H1.out).mono ?_
  rintro e w2 ⟨rfl, hb2⟩
  have HG2 := Lib.hid (G1a.out.below hb2)
  have B2 := Lib.hid (below_one w2 (.cells #[.int .u8 97, .int .u8 x] 5))
  have G2a := Lib.hid (HG2.out.below B2.out)
  go_wp2_with fail
  refine (check_ok _ _ (size_two x) G2a.out.ml H2.out).mono ?_
  rintro e w3 ⟨rfl, hb3⟩
  have HG3 := Lib.hid (G2a.out.below hb3)
  go_wp2
  go_ret
  exact ⟨rfl, below_from (below_from hb1 (below_from B1.out hb2)) (below_from B2.out hb3)⟩
set_option maxRecDepth 100000 in
set_option maxHeartbeats 1000000 in
theorem pb_b1 (x : Int) (w : World) (h0 : 0 ≤ x) (h255 : x ≤ 255) (ha : 0 ≤ x) (hz : x ≤ 44) (hg : Env w) : Calls Tryd.prog 7 #[.int .u8 x] w fun e w' => e = .returned (.bool true) ∧ Below w.heap.size w w' := by
  have HK := Lib.hid (checks_any w hg)
  have HG := Lib.hid hg
  obtain ⟨p1, p2, hh1, hh2⟩ := bad_both x h0 h255 (by omega)
  have H1 := Lib.hid hh1
  have H2 := Lib.hid hh2
  clear hh1 hh2
  have v1 := conv_one x
  have v2 := conv_two x
  clear hg
  have n95 : (x == 95) = false := by rw [beq_eq_false_iff_ne]; omega
  have n45 : (x == 45) = false := by rw [beq_eq_false_iff_ne]; omega
  have n46 : (x == 46) = false := by rw [beq_eq_false_iff_ne]; omega
  have d57 : decide (x ≤ 57) = true := by simp; omega
  have d122 : decide (x ≤ 122) = true := by simp; omega
  go_enter Tryd.func7, Tryd.ntmps7
  go_wp2_with fail
  refine HK.out.mono ?_
  rintro e w1 ⟨rfl, hb1⟩
  have HG1 := Lib.hid (HG.out.below hb1)
  have B1 := Lib.hid (below_one w1 (.cells #[.int .u8 x] 5))
  have G1a := Lib.hid (HG1.out.below B1.out)
  go_wp2_with fail
  refine (check_bad _ _ _ (size_one x) G1a.out.ml H1.out).mono ?_
  rintro e w2 ⟨b1, rfl, hf1, hb2⟩
  have HG2 := Lib.hid (G1a.out.below hb2)
  have B2 := Lib.hid (below_one w2 (.cells #[.int .u8 97, .int .u8 x] 5))
  have G2a := Lib.hid (HG2.out.below B2.out)
  go_wp2_with fail
  refine (check_bad _ _ _ (size_two x) G2a.out.ml H2.out).mono ?_
  rintro e w3 ⟨b2, rfl, hf2, hb3⟩
  have HG3 := Lib.hid (G2a.out.below hb3)
  go_wp2
  go_ret
  exact ⟨rfl, below_from (below_from hb1 (below_from B1.out hb2)) (below_from B2.out hb3)⟩
set_option maxRecDepth 100000 in
set_option maxHeartbeats 1000000 in
theorem pb_b2 (x : Int) (w : World) (h0 : 0 ≤ x) (h255 : x ≤ 255) (ha : 47 ≤ x) (hz : x ≤ 47) (hg : Env w) : Calls Tryd.prog 7 #[.int .u8 x] w fun e w' => e = .returned (.bool true) ∧ Below w.heap.size w w' := by
  have HK := Lib.hid (checks_any w hg)
  have HG := Lib.hid hg
  obtain ⟨p1, p2, hh1, hh2⟩ := bad_both x h0 h255 (by omega)
  have H1 := Lib.hid hh1
  have H2 := Lib.hid hh2
  clear hh1 hh2
  have v1 := conv_one x
  have v2 := conv_two x
  clear hg
  have n95 : (x == 95) = false := by rw [beq_eq_false_iff_ne]; omega
  have n45 : (x == 45) = false := by rw [beq_eq_false_iff_ne]; omega
  have n46 : (x == 46) = false := by rw [beq_eq_false_iff_ne]; omega
  have d57 : decide (x ≤ 57) = true := by simp; omega
  have d122 : decide (x ≤ 122) = true := by simp; omega
  go_enter Tryd.func7, Tryd.ntmps7
  go_wp2_with fail
  refine HK.out.mono ?_
  rintro e w1 ⟨rfl, hb1⟩
  have HG1 := Lib.hid (HG.out.below hb1)
  have B1 := Lib.hid (below_one w1 (.cells #[.int .u8 x] 5))
  have G1a := Lib.hid (HG1.out.below B1.out)
  go_wp2_with fail
  refine (check_bad _ _ _ (size_one x) G1a.out.ml H1.out).mono ?_
  rintro e w2 ⟨b1, rfl, hf1, hb2⟩
  have HG2 := Lib.hid (G1a.out.below hb2)
  have B2 := Lib.hid (below_one w2 (.cells #[.int .u8 97, .int .u8 x] 5))
  have G2a := Lib.hid (HG2.out.below B2.out)
  go_wp2_with fail
  refine (check_bad _ _ _ (size_two x) G2a.out.ml H2.out).mono ?_
  rintro e w3 ⟨b2, rfl, hf2, hb3⟩
  have HG3 := Lib.hid (G2a.out.below hb3)
  go_wp2
  go_ret
  exact ⟨rfl, below_from (below_from hb1 (below_from B1.out hb2)) (below_from B2.out hb3)⟩
set_option maxRecDepth 100000 in
set_option maxHeartbeats 1000000 in
theorem pb_b3 (x : Int) (w : World) (h0 : 0 ≤ x) (h255 : x ≤ 255) (ha : 58 ≤ x) (hz : x ≤ 94) (hg : Env w) : Calls Tryd.prog 7 #[.int .u8 x] w fun e w' => e = .returned (.bool true) ∧ Below w.heap.size w w' := by
  have HK := Lib.hid (checks_any w hg)
  have HG := Lib.hid hg
  obtain ⟨p1, p2, hh1, hh2⟩ := bad_both x h0 h255 (by omega)
  have H1 := Lib.hid hh1
  have H2 := Lib.hid hh2
  clear hh1 hh2
  have v1 := conv_one x
  have v2 := conv_two x
  clear hg
  have n95 : (x == 95) = false := by rw [beq_eq_false_iff_ne]; omega
  have n45 : (x == 45) = false := by rw [beq_eq_false_iff_ne]; omega
  have n46 : (x == 46) = false := by rw [beq_eq_false_iff_ne]; omega
  have d57 : decide (x ≤ 57) = false := by simp; omega
  have d122 : decide (x ≤ 122) = true := by simp; omega
  go_enter Tryd.func7, Tryd.ntmps7
  go_wp2_with fail
  refine HK.out.mono ?_
  rintro e w1 ⟨rfl, hb1⟩
  have HG1 := Lib.hid (HG.out.below hb1)
  have B1 := Lib.hid (below_one w1 (.cells #[.int .u8 x] 5))
  have G1a := Lib.hid (HG1.out.below B1.out)
  go_wp2_with fail
  refine (check_bad _ _ _ (size_one x) G1a.out.ml H1.out).mono ?_
  rintro e w2 ⟨b1, rfl, hf1, hb2⟩
  have HG2 := Lib.hid (G1a.out.below hb2)
  have B2 := Lib.hid (below_one w2 (.cells #[.int .u8 97, .int .u8 x] 5))
  have G2a := Lib.hid (HG2.out.below B2.out)
  go_wp2_with fail
  refine (check_bad _ _ _ (size_two x) G2a.out.ml H2.out).mono ?_
  rintro e w3 ⟨b2, rfl, hf2, hb3⟩
  have HG3 := Lib.hid (G2a.out.below hb3)
  go_wp2
  go_ret
  exact ⟨rfl, below_from (below_from hb1 (below_from B1.out hb2)) (below_from B2.out hb3)⟩
set_option maxRecDepth 100000 in
set_option maxHeartbeats 1000000 in
theorem pb_b4 (x : Int) (w : World) (h0 : 0 ≤ x) (h255 : x ≤ 255) (ha : 96 ≤ x) (hz : x ≤ 96) (hg : Env w) : Calls Tryd.prog 7 #[.int .u8 x] w fun e w' => e = .returned (.bool true) ∧ Below w.heap.size w w' := by
  have HK := Lib.hid (checks_any w hg)
  have HG := Lib.hid hg
  obtain ⟨p1, p2, hh1, hh2⟩ := bad_both x h0 h255 (by omega)
  have H1 := Lib.hid hh1
  have H2 := Lib.hid hh2
  clear hh1 hh2
  have v1 := conv_one x
  have v2 := conv_two x
  clear hg
  have n95 : (x == 95) = false := by rw [beq_eq_false_iff_ne]; omega
  have n45 : (x == 45) = false := by rw [beq_eq_false_iff_ne]; omega
  have n46 : (x == 46) = false := by rw [beq_eq_false_iff_ne]; omega
  have d57 : decide (x ≤ 57) = false := by simp; omega
  have d122 : decide (x ≤ 122) = true := by simp; omega
  go_enter Tryd.func7, Tryd.ntmps7
  go_wp2_with fail
  refine HK.out.mono ?_
  rintro e w1 ⟨rfl, hb1⟩
  have HG1 := Lib.hid (HG.out.below hb1)
  have B1 := Lib.hid (below_one w1 (.cells #[.int .u8 x] 5))
  have G1a := Lib.hid (HG1.out.below B1.out)
  go_wp2_with fail
  refine (check_bad _ _ _ (size_one x) G1a.out.ml H1.out).mono ?_
  rintro e w2 ⟨b1, rfl, hf1, hb2⟩
  have HG2 := Lib.hid (G1a.out.below hb2)
  have B2 := Lib.hid (below_one w2 (.cells #[.int .u8 97, .int .u8 x] 5))
  have G2a := Lib.hid (HG2.out.below B2.out)
  go_wp2_with fail
  refine (check_bad _ _ _ (size_two x) G2a.out.ml H2.out).mono ?_
  rintro e w3 ⟨b2, rfl, hf2, hb3⟩
  have HG3 := Lib.hid (G2a.out.below hb3)
  go_wp2
  go_ret
  exact ⟨rfl, below_from (below_from hb1 (below_from B1.out hb2)) (below_from B2.out hb3)⟩
set_option maxRecDepth 100000 in
set_option maxHeartbeats 1000000 in
theorem pb_b5 (x : Int) (w : World) (h0 : 0 ≤ x) (h255 : x ≤ 255) (ha : 123 ≤ x) (hz : x ≤ 255) (hg : Env w) : Calls Tryd.prog 7 #[.int .u8 x] w fun e w' => e = .returned (.bool true) ∧ Below w.heap.size w w' := by
  have HK := Lib.hid (checks_any w hg)
  have HG := Lib.hid hg
  obtain ⟨p1, p2, hh1, hh2⟩ := bad_both x h0 h255 (by omega)
  have H1 := Lib.hid hh1
  have H2 := Lib.hid hh2
  clear hh1 hh2
  have v1 := conv_one x
  have v2 := conv_two x
  clear hg
  have n95 : (x == 95) = false := by rw [beq_eq_false_iff_ne]; omega
  have n45 : (x == 45) = false := by rw [beq_eq_false_iff_ne]; omega
  have n46 : (x == 46) = false := by rw [beq_eq_false_iff_ne]; omega
  have d57 : decide (x ≤ 57) = false := by simp; omega
  have d122 : decide (x ≤ 122) = false := by simp; omega
  go_enter Tryd.func7, Tryd.ntmps7
  go_wp2_with fail
  refine HK.out.mono ?_
  rintro e w1 ⟨rfl, hb1⟩
  have HG1 := Lib.hid (HG.out.below hb1)
  have B1 := Lib.hid (below_one w1 (.cells #[.int .u8 x] 5))
  have G1a := Lib.hid (HG1.out.below B1.out)
  go_wp2_with fail
  refine (check_bad _ _ _ (size_one x) G1a.out.ml H1.out).mono ?_
  rintro e w2 ⟨b1, rfl, hf1, hb2⟩
  have HG2 := Lib.hid (G1a.out.below hb2)
  have B2 := Lib.hid (below_one w2 (.cells #[.int .u8 97, .int .u8 x] 5))
  have G2a := Lib.hid (HG2.out.below B2.out)
  go_wp2_with fail
  refine (check_bad _ _ _ (size_two x) G2a.out.ml H2.out).mono ?_
  rintro e w3 ⟨b2, rfl, hf2, hb3⟩
  have HG3 := Lib.hid (G2a.out.below hb3)
  go_wp2
  go_ret
  exact ⟨rfl, below_from (below_from hb1 (below_from B1.out hb2)) (below_from B2.out hb3)⟩
set_option maxRecDepth 100000 in
set_option maxHeartbeats 1000000 in
theorem pb_95 (w : World) (hg : Env w) : Calls Tryd.prog 7 #[.int .u8 95] w fun e w' => e = .returned (.bool true) ∧ Below w.heap.size w w' := by
  have HK := Lib.hid (checks_any w hg)
  have HG := Lib.hid hg
  have hh := good_both 95 (by decide) (by decide) (by decide)
  have H1 := Lib.hid hh.1
  have H2 := Lib.hid hh.2
  clear hh
  have v1 := conv_one 95
  have v2 := conv_two 95
  clear hg
  go_enter Tryd.func7, Tryd.ntmps7
  go_wp2_with fail
  refine HK.out.mono ?_
  rintro e w1 ⟨rfl, hb1⟩
  have HG1 := Lib.hid (HG.out.below hb1)
  have B1 := Lib.hid (below_one w1 (.cells #[.int .u8 95] 5))
  have G1a := Lib.hid (HG1.out.below B1.out)
  go_wp2_with fail
  refine (check_ok _ _ (size_one 95) G1a.out.ml H1.out).mono ?_
  rintro e w2 ⟨rfl, hb2⟩
  have HG2 := Lib.hid (G1a.out.below hb2)
  have B2 := Lib.hid (below_one w2 (.cells #[.int .u8 97, .int .u8 95] 5))
  have G2a := Lib.hid (HG2.out.below B2.out)
  go_wp2_with fail
  refine (check_ok _ _ (size_two 95) G2a.out.ml H2.out).mono ?_
  rintro e w3 ⟨rfl, hb3⟩
  have HG3 := Lib.hid (G2a.out.below hb3)
  go_wp2
  go_ret
  exact ⟨rfl, below_from (below_from hb1 (below_from B1.out hb2)) (below_from B2.out hb3)⟩
set_option maxRecDepth 100000 in
set_option maxHeartbeats 1000000 in
theorem pb_45 (w : World) (hg : Env w) : Calls Tryd.prog 7 #[.int .u8 45] w fun e w' => e = .returned (.bool true) ∧ Below w.heap.size w w' := by
  have HK := Lib.hid (checks_any w hg)
  have HG := Lib.hid hg
  have hh := good_both 45 (by decide) (by decide) (by decide)
  have H1 := Lib.hid hh.1
  have H2 := Lib.hid hh.2
  clear hh
  have v1 := conv_one 45
  have v2 := conv_two 45
  clear hg
  go_enter Tryd.func7, Tryd.ntmps7
  go_wp2_with fail
  refine HK.out.mono ?_
  rintro e w1 ⟨rfl, hb1⟩
  have HG1 := Lib.hid (HG.out.below hb1)
  have B1 := Lib.hid (below_one w1 (.cells #[.int .u8 45] 5))
  have G1a := Lib.hid (HG1.out.below B1.out)
  go_wp2_with fail
  refine (check_ok _ _ (size_one 45) G1a.out.ml H1.out).mono ?_
  rintro e w2 ⟨rfl, hb2⟩
  have HG2 := Lib.hid (G1a.out.below hb2)
  have B2 := Lib.hid (below_one w2 (.cells #[.int .u8 97, .int .u8 45] 5))
  have G2a := Lib.hid (HG2.out.below B2.out)
  go_wp2_with fail
  refine (check_ok _ _ (size_two 45) G2a.out.ml H2.out).mono ?_
  rintro e w3 ⟨rfl, hb3⟩
  have HG3 := Lib.hid (G2a.out.below hb3)
  go_wp2
  go_ret
  exact ⟨rfl, below_from (below_from hb1 (below_from B1.out hb2)) (below_from B2.out hb3)⟩
set_option maxRecDepth 100000 in
set_option maxHeartbeats 1000000 in
theorem pb_46 (w : World) (hg : Env w) : Calls Tryd.prog 7 #[.int .u8 46] w fun e w' => e = .returned (.bool true) ∧ Below w.heap.size w w' := by
  have HK := Lib.hid (checks_any w hg)
  have HG := Lib.hid hg
  have H1 := Lib.hid dot_both.1
  have H2 := Lib.hid dot_both.2
  have v1 := conv_one 46
  have v2 := conv_two 46
  clear hg
  go_enter Tryd.func7, Tryd.ntmps7
  go_wp2_with fail
  refine HK.out.mono ?_
  rintro e w1 ⟨rfl, hb1⟩
  have HG1 := Lib.hid (HG.out.below hb1)
  have B1 := Lib.hid (below_one w1 (.cells #[.int .u8 46] 5))
  have G1a := Lib.hid (HG1.out.below B1.out)
  go_wp2_with fail
  refine (check_bad _ _ _ (size_one 46) G1a.out.ml H1.out).mono ?_
  rintro e w2 ⟨b1, rfl, hf1, hb2⟩
  have HG2 := Lib.hid (G1a.out.below hb2)
  have B2 := Lib.hid (below_one w2 (.cells #[.int .u8 97, .int .u8 46] 5))
  have G2a := Lib.hid (HG2.out.below B2.out)
  go_wp2_with fail
  refine (check_ok _ _ (size_two 46) G2a.out.ml H2.out).mono ?_
  rintro e w3 ⟨rfl, hb3⟩
  have HG3 := Lib.hid (G2a.out.below hb3)
  go_wp2
  go_ret
  exact ⟨rfl, below_from (below_from hb1 (below_from B1.out hb2)) (below_from B2.out hb3)⟩
theorem pathBytes_walk (x : Int) (w : World) (hx : (Lit.int .u8 x).wf = true) (hg : Env w) : Calls Tryd.prog 7 #[.int .u8 x] w fun e w' => e = .returned (.bool true) ∧ Below w.heap.size w w' := by
  obtain ⟨h0, h255⟩ : 0 ≤ x ∧ x ≤ 255 := by simpa [Lit.wf, IntKind.min, IntKind.max, IntKind.signed, IntKind.bits] using hx
  by_cases c1 : x ≤ 44
  · exact pb_b1 x w h0 h255 h0 c1 hg
  by_cases c2 : x = 45
  · subst c2; exact pb_45 w hg
  by_cases c3 : x = 46
  · subst c3; exact pb_46 w hg
  by_cases c4 : x = 47
  · exact pb_b2 x w h0 h255 (by omega) (by omega) hg
  by_cases c5 : x ≤ 57
  · exact pb_dig x w h0 h255 (by omega) (by omega) hg
  by_cases c6 : x ≤ 94
  · exact pb_b3 x w h0 h255 (by omega) (by omega) hg
  by_cases c7 : x = 95
  · subst c7; exact pb_95 w hg
  by_cases c8 : x = 96
  · exact pb_b4 x w h0 h255 (by omega) (by omega) hg
  by_cases c9 : x ≤ 122
  · exact pb_low x w h0 h255 (by omega) (by omega) hg
  exact pb_b5 x w h0 h255 (by omega) (by omega) hg
end Go.Proofs.YtkhnfepnapgfaaaDoor
