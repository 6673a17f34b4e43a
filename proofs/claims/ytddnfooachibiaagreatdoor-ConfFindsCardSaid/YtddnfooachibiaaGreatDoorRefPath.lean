/-
  The reference's Check: what it comes to.
-/
import Derived.Test.YtddnfooachibiaaGreatDoorPathCheck
import Derived.Test.YtddnfooachibiaaGreatDoorPathPlain
import Derived.Test.YtddnfooachibiaaGreatDoorShelf
import Derived.WalkKit
import Derived.Outline
import Derived.LaidEql
import Derived.Below
import Derived.WalkLawsBesides
import Derived.WalkSpells
import Derived.Deep.QuietTactic
import Derived.BigQuiet
import Derived.Deep.LoopGhost
import Derived.Lib.Hide
set_option linter.unusedVariables false
set_option linter.unusedSimpArgs false
namespace Go.Proofs.YtddnfooachibiaaGreatDoor
open Go.RowKit

set_option maxRecDepth 100000 in
/-- The reference's sign. -/
theorem rsign_any (c : UInt8) (w : World) : Calls Tryz.prog 78 #[.int .u8 c.toNat] w fun e w' => e = .returned (.bool (signB c)) ∧ w' = w := by
  go_enter Tryz.func78, Tryz.ntmps78
  go_wp2
  all_goals go_ret
  all_goals exact ⟨ret_sign (by rw [Bool.eq_iff_iff, signB_iff]; simp at *; omega), rfl⟩
theorem ret_str {a b : ByteArray} (h : a = b) : Ending.returned (.string a) = .returned (.string b) := by rw [h]
theorem in_of_drop {s : ByteArray} {a j : Nat} (ha : a ≤ j) (h : j < a + (headSeg (s.data.toList.drop a)).length) : ∃ hj : j < s.size, s[j] ≠ 47 := by
  have h1 := headSeg_le (s.data.toList.drop a)
  have h2 : (s.data.toList.drop a).length = s.size - a := by simp
  have hj : j < s.size := by omega
  refine ⟨hj, ?_⟩
  have := headSeg_in (s.data.toList.drop a) (j - a) (by omega) (by omega)
  rw [List.getElem_drop] at this
  have e : a + (j - a) = j := by omega
  simp only [e] at this
  exact this
theorem end_of_drop {s : ByteArray} {a j : Nat} (ha : a ≤ s.size) (h : j = a + (headSeg (s.data.toList.drop a)).length) (hj : j < s.size) : s[j] = 47 := by
  have h2 : (s.data.toList.drop a).length = s.size - a := by simp
  have := headSeg_end (s.data.toList.drop a) (by omega)
  rw [List.getElem_drop] at this
  simp only [← h] at this
  exact this
set_option maxRecDepth 100000 in
set_option maxHeartbeats 1000000 in
/-- The reference's segment. -/
theorem seg_any (s : ByteArray) (a : Nat) (w : World) (ha : a ≤ s.size) (hs : s.size ≤ 140737488351232) : Calls Tryz.prog 77 #[.string s, .int .i64 a] w fun e w' => e = .returned (.string (segB s a)) ∧ w' = w := by
  have hl := headSeg_le (s.data.toList.drop a)
  have h2 : (s.data.toList.drop a).length = s.size - a := by simp
  rw [h2] at hl
  obtain ⟨n, hn⟩ : ∃ n, n = (headSeg (s.data.toList.drop a)).length := ⟨_, rfl⟩
  rw [← hn] at hl
  have HN := Lib.hid hn
  clear hn h2
  go_enter Tryz.func77, Tryz.ntmps77
  go_wp2
  go_loop [5] (fun i => ∃ j : Nat, a ≤ j ∧ j ≤ a + n ∧ i = .int .i64 j) (fun i => a + n - (intOf i).toNat)
  case atStart => exact ⟨a, by omega, by omega, rfl⟩
  case round =>
    obtain ⟨j, hj1, hj2, rfl⟩ := hrel
    by_cases hlt : j < a + n
    · obtain ⟨hj, hne⟩ := in_of_drop hj1 (by rw [← HN.out]; exact hlt)
      have hb0 : ((s[j].toNat : Int) == 47) = false := by rw [beq_eq_false_iff_ne]; intro e; exact hne (UInt8.toNat_inj.1 (by simp; omega))
      have hb1 : ((s[j].toNat : Int) != 47) = true := by rw [bne, hb0]; rfl
      clear hne
      go_wp2
      go_round
      case rel => exact ⟨j + 1, by omega, by omega, by go_num⟩
      case measure => simp [intOf]; omega
    · have e : j = a + n := by omega
      by_cases hj : j < s.size
      · have h47 := end_of_drop ha (by rw [← HN.out]; exact e) hj
        have hb0 : ((s[j].toNat : Int) == 47) = true := by rw [beq_iff_eq, h47]; rfl
        have hb1 : ((s[j].toNat : Int) != 47) = false := by rw [bne, hb0]; rfl
        have H47 := Lib.hid h47
        have E := Lib.hid e
        clear h47 e
        go_wp2
        go_ret
        exact ⟨ret_str (by rw [segB, ← HN.out, ← E.out]), rfl⟩
      · have E := Lib.hid e
        clear e
        go_wp2
        go_ret
        exact ⟨ret_str (by rw [segB, ← HN.out, ← E.out]), rfl⟩

/-- What the reference's Check hands back. -/
def refRes (r : Option Nat) : Ending :=
  match r with
  | none => .returned (.tuple #[.int .i64 0, .int .i64 0])
  | some p => .returned (.tuple #[.int .i64 1, .int .i64 p])
theorem refRes_some {r : Option Nat} {p : Nat} (h : r = some p) : Ending.returned (.tuple #[.int .i64 1, .int .i64 p]) = refRes r := by rw [h]; rfl
theorem refRes_none {r : Option Nat} (h : r = none) : Ending.returned (.tuple #[.int .i64 0, .int .i64 0]) = refRes r := by rw [h]; rfl
/-- How far the reference has come: the segment from place q on is the k-th. -/
def RefAt (s : ByteArray) (q k : Nat) : Prop := (q ≤ s.size → partsBad k q (splitSlash (s.data.toList.drop q)) = checkB s) ∧ (s.size < q → checkB s = none)
set_option maxRecDepth 100000 in
set_option maxHeartbeats 1000000 in
/-- The reference's Check. -/
theorem rcheck_any (s : ByteArray) (w : World) (hs : s.size ≤ 140737488351232) : Calls Tryz.prog 57 #[.string s] w fun e w' => e = refRes (checkB s) ∧ w' = w := by
  by_cases h0 : s.size = 0
  · have hc : checkB s = some 0 := by simp [checkB, h0, List.isEmpty_iff_length_eq_zero.2 (show s.data.toList.length = 0 from h0)]
    have HC := Lib.hid hc
    have he : s.toList.isEmpty = true := by rw [ByteArray.toList_eq, List.isEmpty_iff_length_eq_zero, size_len]; exact h0
    clear hc h0
    go_enter Tryz.func57, Tryz.ntmps57
    go_wp2
    go_ret2
    exact ⟨refRes_some HC.out, rfl⟩
  · have he : s.toList.isEmpty = false := by rw [ByteArray.toList_eq, ← Bool.not_eq_true, List.isEmpty_iff_length_eq_zero, size_len]; exact h0
    by_cases h1 : 64 < s.size
    · have hc : checkB s = some 64 := by
        rw [checkB, if_pos (by simp [h1])]
        congr 1
        omega
      have HC := Lib.hid hc
      clear hc h0
      go_enter Tryz.func57, Tryz.ntmps57
      go_wp2
      go_ret2
      exact ⟨refRes_some HC.out, rfl⟩
    · have hle : (s.size : Int) ≤ 64 := by omega
      have HCH := Lib.hid (checkB_slash s (by omega) (by omega))
      go_enter Tryz.func57, Tryz.ntmps57
      have hz64 : s.size ≤ 64 := by omega
      clear hs h0 h1
      go_wp2_with fail
      go_loop [4, 5] (fun a i => ∃ q k : Nat, a = .int .i64 q ∧ i = .int .i64 k ∧ k ≤ q ∧ q ≤ s.size + 1 ∧ RefAt s q k) (fun a _ => s.size + 1 - (intOf a).toNat)
      case atStart => exact ⟨0, 0, rfl, rfl, by omega, by omega, fun _ => HCH.out.symm, fun h => by omega⟩
      case round =>
        obtain ⟨q, k, rfl, rfl, hkq, hq1, hra⟩ := hrel
        have HRA := Lib.hid hra
        clear hra
        by_cases hq : q ≤ s.size
        · obtain ⟨p, hp⟩ : ∃ p, p = segB s q := ⟨_, rfl⟩
          have hseg := seg_any s q w hq (by omega)
          rw [← hp] at hseg
          have HSEG := Lib.hid hseg
          clear hseg
          have hpd : p.data.toList = headSeg (s.data.toList.drop q) := by rw [hp, segB_data]
          have hpz : p.size ≤ s.size - q := by
            rw [hp, segB_size]
            have := headSeg_le (s.data.toList.drop q)
            simpa using this
          have hP2 : partsBad k q (p.data.toList :: (if p.size < s.size - q then splitSlash (s.data.toList.drop (q + (p.size + 1))) else [])) = checkB s := by
            rw [← HRA.out.1 hq, splitSlash_head (s.data.toList.drop q), ← hpd, List.drop_drop, size_len]
            simp
          have HP2 := Lib.hid hP2
          clear hP2 hp hpd
          by_cases h6 : k = 6
          · have hres : checkB s = some q := by rw [← HP2.out, h6, partsBad_six]
            have HR := Lib.hid hres
            have h60 : ((k : Int) == 6) = true := by rw [beq_iff_eq]; omega
            clear h6 hres
            go_wp2_with (go_at_call 77; refine HSEG.out.mono ?_; rintro e w' ⟨rfl, rfl⟩)
            go_ret2
            exact ⟨refRes_some HR.out, rfl⟩
          · have h60 : ((k : Int) == 6) = false := by rw [beq_eq_false_iff_ne]; omega
            have hsn := segNo_eq p
            cases hno : segNo p.data.toList with
            | true =>
              have hres : checkB s = some q := by rw [← HP2.out, partsBad_no h6 hno]
              have HR := Lib.hid hres
              rw [hno] at hsn
              clear h6 hno hres
              cases b1 : p.toList.isEmpty with
              | true =>
                clear hsn
                go_wp2_with (go_at_call 77; refine HSEG.out.mono ?_; rintro e w' ⟨rfl, rfl⟩)
                go_ret2
                exact ⟨refRes_some HR.out, rfl⟩
              | false =>
                cases b2 : (p.toList == [46]) with
                | true =>
                  clear hsn
                  go_wp2_with (go_at_call 77; refine HSEG.out.mono ?_; rintro e w' ⟨rfl, rfl⟩)
                  go_ret2
                  exact ⟨refRes_some HR.out, rfl⟩
                | false =>
                  cases b3 : (p.toList == [46, 46]) with
                  | true =>
                    clear hsn
                    go_wp2_with (go_at_call 77; refine HSEG.out.mono ?_; rintro e w' ⟨rfl, rfl⟩)
                    go_ret2
                    exact ⟨refRes_some HR.out, rfl⟩
                  | false =>
                    rw [b1, b2, b3] at hsn
                    have hz : (16 : Int) < (p.size : Int) := by
                      have hz0 : 16 < p.size := by simpa using hsn
                      omega
                    have hz1 : decide (16 < p.size) = true := by simp; omega
                    clear hsn
                    go_wp2_with (go_at_call 77; refine HSEG.out.mono ?_; rintro e w' ⟨rfl, rfl⟩)
                    go_ret2
                    exact ⟨refRes_some HR.out, rfl⟩
            | false =>
              rw [hno] at hsn
              have HNO := Lib.hid hno
              have H6 := Lib.hid h6
              clear hno h6
              cases b1 : p.toList.isEmpty with
              | true => rw [b1] at hsn; simp at hsn
              | false =>
                cases b2 : (p.toList == [46]) with
                | true => rw [b1, b2] at hsn; simp at hsn
                | false =>
                  cases b3 : (p.toList == [46, 46]) with
                  | true => rw [b1, b2, b3] at hsn; simp at hsn
                  | false =>
                    rw [b1, b2, b3] at hsn
                    have hz : (p.size : Int) ≤ 16 := by
                      have hz0 : p.size ≤ 16 := by simpa using hsn
                      omega
                    have hz1 : decide (16 < p.size) = false := by simp; omega
                    clear hsn
                    go_wp2_with (go_at_call 77; refine HSEG.out.mono ?_; rintro e w' ⟨rfl, rfl⟩)
                    go_loop [7] (fun i => ∃ j : Nat, j ≤ p.size ∧ i = .int .i64 j ∧ badAt j (p.data.toList.drop j) = badAt 0 p.data.toList) (fun i => p.size - (intOf i).toNat)
                    case atStart => exact ⟨0, by omega, rfl, rfl⟩
                    case round =>
                      obtain ⟨j, hj, rfl, hbj⟩ := hrel
                      have HB := Lib.hid hbj
                      clear hbj
                      by_cases hjl : j < p.size
                      · cases hs : signB p[j] with
                        | true =>
                          have HS := Lib.hid (badAt_step (l := p.data.toList) (k := j) hjl hs)
                          go_wp2_with (go_at_call 78; refine (rsign_any p[j] _).mono ?_; rintro e w' ⟨rfl, rfl⟩)
                          go_round
                          case rel => exact ⟨j + 1, by omega, by go_num, by rw [← HS.out]; exact HB.out⟩
                          case measure => simp [intOf]; omega
                        | false =>
                          have hres : checkB s = some (q + j) := by
                            rw [← HP2.out, partsBad_byte H6.out HNO.out (j := j)]
                            rw [← HB.out]
                            exact badAt_hit (l := p.data.toList) (k := j) hjl hs
                          have HR := Lib.hid hres
                          clear hres
                          go_wp2_with (go_at_call 78; refine (rsign_any p[j] _).mono ?_; rintro e w' ⟨rfl, rfl⟩)
                          go_ret2
                          exact ⟨refRes_some HR.out, rfl⟩
                      · have hres : partsBad (k + 1) (q + (p.size + 1)) (if p.size < s.size - q then splitSlash (s.data.toList.drop (q + (p.size + 1))) else []) = checkB s := by
                          rw [← HP2.out, partsBad_next H6.out HNO.out]
                          · rfl
                          · rw [← HB.out]
                            obtain rfl : j = p.size := by omega
                            exact badAt_end
                        have HR := Lib.hid hres
                        clear hres
                        go_wp2
                        go_round
                        case rel => exact ⟨q + (p.size + 1), k + 1, by go_num, by go_num, by omega, by omega, fun h => by rw [← HR.out, if_pos (by omega)], fun h => by rw [← HR.out, if_neg (by omega)]; rfl⟩
                        case measure => simp [intOf]; omega
        · have hres : checkB s = none := HRA.out.2 (by omega)
          have HR := Lib.hid hres
          clear hres
          go_wp2
          go_ret2
          exact ⟨refRes_none HR.out, rfl⟩
end Go.Proofs.YtddnfooachibiaaGreatDoor
