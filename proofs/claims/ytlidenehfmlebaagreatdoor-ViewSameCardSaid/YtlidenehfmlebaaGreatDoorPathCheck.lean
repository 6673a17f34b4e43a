/-
  path.sign and path.Check: what they come to.
-/
import Derived.Test.YtlidenehfmlebaaGreatDoorErrN
import Derived.Test.YtlidenehfmlebaaGreatDoorPathPlain
import Derived.Test.YtlidenehfmlebaaGreatDoorShelf
import Derived.WalkKit
import Derived.Outline
import Derived.LaidEql
import Derived.Below
import Derived.WalkLawsBesides
import Derived.WalkSpells
import Derived.Deep.QuietTactic
import Derived.BigQuiet
import Derived.Deep.LoopGhost
import Derived.Lib.Hide
set_option linter.unusedVariables false
set_option linter.unusedSimpArgs false
namespace Go.Proofs.YtlidenehfmlebaaGreatDoor
open Go.RowKit

theorem signB_iff (c : UInt8) : signB c = true ↔ (97 ≤ (c.toNat : Int) ∧ (c.toNat : Int) ≤ 122) ∨ (48 ≤ (c.toNat : Int) ∧ (c.toNat : Int) ≤ 57) ∨ (c.toNat : Int) = 95 ∨ (c.toNat : Int) = 45 ∨ (c.toNat : Int) = 46 := by
  unfold signB
  simp only [Bool.or_eq_true, Bool.and_eq_true, decide_eq_true_eq, beq_iff_eq, UInt8.le_iff_toNat_le, ← UInt8.toNat_inj]
  simp
  omega
theorem ret_sign {b : Bool} {c : UInt8} (h : signB c = b) : Ending.returned (.bool b) = .returned (.bool (signB c)) := by rw [h]
theorem sign_yes {c : UInt8} (h : (97 ≤ (c.toNat : Int) ∧ (c.toNat : Int) ≤ 122) ∨ (48 ≤ (c.toNat : Int) ∧ (c.toNat : Int) ≤ 57) ∨ (c.toNat : Int) = 95 ∨ (c.toNat : Int) = 45 ∨ (c.toNat : Int) = 46) : signB c = true := (signB_iff c).2 h
theorem sign_no {c : UInt8} (h : ¬((97 ≤ (c.toNat : Int) ∧ (c.toNat : Int) ≤ 122) ∨ (48 ≤ (c.toNat : Int) ∧ (c.toNat : Int) ≤ 57) ∨ (c.toNat : Int) = 95 ∨ (c.toNat : Int) = 45 ∨ (c.toNat : Int) = 46)) : signB c = false := by
  cases hb : signB c with
  | false => rfl
  | true => exact absurd ((signB_iff c).1 hb) h
set_option maxRecDepth 100000 in
/-- path.sign. -/
theorem sign_any (c : UInt8) (w : World) : Calls Tryz.prog 90 #[.int .u8 c.toNat] w fun e w' => e = .returned (.bool (signB c)) ∧ w' = w := by
  go_enter Tryz.func90, Tryz.ntmps90
  go_wp2
  all_goals go_ret
  all_goals (first | (refine ⟨ret_sign (b := true) (sign_yes ?_), rfl⟩; (try simp only [beq_iff_eq, beq_eq_false_iff_ne, ne_eq] at *); omega) | (refine ⟨ret_sign (b := false) (sign_no ?_), rfl⟩; (try simp only [beq_iff_eq, beq_eq_false_iff_ne, ne_eq] at *); omega))

/-- An error is handed back, and nothing that was there has turned. -/
def RetErr (w : World) (g : GErr) (e : Ending) (w' : World) : Prop := ∃ v, e = .returned v ∧ ErrV w' v g ∧ Below w.heap.size w w'
/-- What path.Check hands back. -/
def checkG (s : ByteArray) : GErr :=
  match checkB s with
  | none => .nil
  | some p => .fault p 90
theorem retErr_fault {w W : World} {p : Int} {g : GErr} (hg : g = .fault p 90) (hb : Below w.heap.size w W) :
    RetErr w g (.returned (.iface 186 (.pointer (some ⟨W.heap.size, 0, none⟩)))) (W.alloc (.cells #[.int .i64 p, .int .i64 90] 188)) :=
  ⟨_, rfl, hg ▸ ⟨W.heap.size, rfl, by simp, by simp, _, _, heap_alloc_new W _⟩, hb.alloc hb.size _⟩
theorem checkG_of {s : ByteArray} {p : Nat} (h : checkB s = some p) : checkG s = .fault (p : Int) 90 := by simp [checkG, h]
theorem checkG_none {s : ByteArray} (h : checkB s = none) : checkG s = .nil := by simp [checkG, h]

set_option maxRecDepth 100000 in
set_option maxHeartbeats 1000000 in
/-- The text is empty, or too long. -/
theorem check_size (s : ByteArray) (w : World) (h : s.size = 0 ∨ 64 < s.size) (hs : s.size ≤ 140737488351232) : Calls Tryz.prog 70 #[.string s] w (RetErr w (checkG s)) := by
  have hc : checkG s = .fault ((min s.size 64 : Nat) : Int) 90 := checkG_of (by simp only [checkB, size_len]; rw [if_pos]; simp only [Bool.or_eq_true, List.isEmpty_iff_length_eq_zero, size_len, decide_eq_true_eq]; exact h)
  have HC := Lib.hid hc
  clear hc
  rcases h with h | h
  · have he : s.toList.isEmpty = true := by rw [ByteArray.toList_eq, List.isEmpty_iff_length_eq_zero, size_len]; exact h
    have h00 : (s.size : Int) = 0 := by omega
    go_enter Tryz.func70, Tryz.ntmps70
    go_wp2
    go_ret
    exact retErr_fault (HC.out.trans (by congr 1; omega)) (Below.refl _ _)
  · have he : s.toList.isEmpty = false := by rw [ByteArray.toList_eq, ← Bool.not_eq_true, List.isEmpty_iff_length_eq_zero, size_len]; omega
    have h1 : (64 : Int) < (s.size : Int) := by omega
    go_enter Tryz.func70, Tryz.ntmps70
    go_wp2
    go_ret
    exact retErr_fault (HC.out.trans (by congr 1; omega)) (Below.refl _ _)

theorem partsBad_none {k a : Nat} : partsBad k a [] = none := rfl
theorem partsBad_six {a : Nat} {p : List UInt8} {ps : List (List UInt8)} : partsBad 6 a (p :: ps) = some a := by simp [partsBad]
theorem partsBad_no {k a : Nat} {p : List UInt8} {ps : List (List UInt8)} (hk : k ≠ 6) (h : segNo p = true) : partsBad k a (p :: ps) = some a := by simp [partsBad, hk, h]
theorem partsBad_byte {k a j : Nat} {p : List UInt8} {ps : List (List UInt8)} (hk : k ≠ 6) (h : segNo p = false) (hb : badAt 0 p = some j) : partsBad k a (p :: ps) = some (a + j) := by simp [partsBad, hk, h, hb]
theorem partsBad_next {k a : Nat} {p : List UInt8} {ps : List (List UInt8)} (hk : k ≠ 6) (h : segNo p = false) (hb : badAt 0 p = none) : partsBad k a (p :: ps) = partsBad (k + 1) (a + (p.length + 1)) ps := by simp [partsBad, hk, h, hb]
theorem badAt_step {k : Nat} {l : List UInt8} (h : k < l.length) (hs : signB l[k] = true) : badAt k (l.drop k) = badAt (k + 1) (l.drop (k + 1)) := by
  rw [List.drop_eq_getElem_cons h, badAt, if_pos hs]
theorem badAt_hit {k : Nat} {l : List UInt8} (h : k < l.length) (hs : signB l[k] = false) : badAt k (l.drop k) = some k := by
  rw [List.drop_eq_getElem_cons h, badAt, if_neg (by simp [hs])]
theorem badAt_end {l : List UInt8} : badAt l.length (l.drop l.length) = none := by simp [badAt]

theorem segNo_eq (p : ByteArray) : segNo p.data.toList = (p.toList.isEmpty || p.toList == [46] || p.toList == [46, 46] || decide (16 < p.size)) := by
  rw [ByteArray.toList_eq]; rfl
theorem segs_length (s : ByteArray) : (segs s).length = Lib.countB s ⟨#[47]⟩ + 1 := Lib.splitB_all ⟨#[47]⟩ (by decide) 0 _ s rfl
/-- strings.Split at a slash. -/
theorem split_slash (s : ByteArray) (w : World) (hs : s.size < 4294967281) (hg : EnvM w) : Calls Tryz.prog 89 #[.string s, .string ⟨#[47]⟩] w fun e w' =>
    e = .returned (.slice (some ⟨w.heap.size, 0, none⟩) (segs s).length (segs s).length) ∧ Below w.heap.size w w' ∧ ∀ k (h : k < (segs s).length), w'.cell? ⟨w.heap.size, k, none⟩ = some (.string (segs s)[k]) := by
  obtain ⟨m, hm⟩ := hg
  refine (Tryz.strings_Split s ⟨#[47]⟩ m w hs hm (by decide)).mono ?_
  rintro e w' ⟨rfl, rfl⟩
  refine ⟨by rw [segs_length], below_one _ _, fun k h => ?_⟩
  simp only [World.cell?_alloc_at _ _ _ _ rfl]
  show ((List.map Value.string (segs s)).toArray)[k]? = _
  simp [h]
set_option maxRecDepth 100000 in
set_option maxHeartbeats 1000000 in
/-- The text has a size that may be. -/
theorem check_parts (s : ByteArray) (w : World) (h1 : 1 ≤ s.size) (h2 : s.size ≤ 64) (hg : EnvM w) : Calls Tryz.prog 70 #[.string s] w (RetErr w (checkG s)) := by
  have he : s.toList.isEmpty = false := by rw [ByteArray.toList_eq, ← Bool.not_eq_true, List.isEmpty_iff_length_eq_zero, size_len]; omega
  have hle : (s.size : Int) ≤ 64 := by omega
  have HSP := Lib.hid (split_slash s w (by omega) hg)
  have hch : checkB s = partsBad 0 0 ((segs s).map (·.data.toList)) := by
    rw [checkB, if_neg]
    rw [ByteArray.toList_eq] at he
    simp [he]
    omega
  have HCH := Lib.hid hch
  clear hch hg
  go_enter Tryz.func70, Tryz.ntmps70
  go_wp2_with (go_at_call 89; refine HSP.out.mono ?_; rintro e W ⟨rfl, hB, hcells⟩; have HC := Lib.hid hcells; clear hcells)
  go_loop [3, 23] (fun a i => ∃ k q : Nat, k ≤ 6 ∧ k ≤ (segs s).length ∧ i = .int .i64 k ∧ a = .int .i64 q ∧ q ≤ 17 * k ∧ partsBad k q (((segs s).map (·.data.toList)).drop k) = checkB s) (fun _ i => (segs s).length - (intOf i).toNat)
  case atStart => exact ⟨0, 0, by omega, by omega, rfl, rfl, by omega, HCH.out.symm⟩
  case round =>
    obtain ⟨k, q, hk6, hkn, rfl, rfl, hq, hpb⟩ := hrel
    have HP := Lib.hid hpb
    clear hpb
    by_cases hlt : k < (segs s).length
    · obtain ⟨p, hp⟩ : ∃ p, p = (segs s)[k] := ⟨_, rfl⟩
      have hcell := HC.out k hlt
      rw [← hp] at hcell
      have hP2 : partsBad k q (p.data.toList :: ((segs s).map (·.data.toList)).drop (k + 1)) = checkB s := by
        rw [hp, ← HP.out, List.drop_eq_getElem_cons (i := k) (by simpa using hlt)]
        simp
      have HP2 := Lib.hid hP2
      clear hP2 hp
      by_cases h6 : k = 6
      · have hres : checkB s = some q := by rw [← HP2.out, h6, partsBad_six]
        have HR := Lib.hid hres
        have h60 : ((k : Int) == 6) = true := by rw [beq_iff_eq]; omega
        clear h6 hres
        go_wp2
        go_ret
        exact retErr_fault (checkG_of HR.out) hB
      · have h60 : ((k : Int) == 6) = false := by rw [beq_eq_false_iff_ne]; omega
        have hsn := segNo_eq p
        cases hno : segNo p.data.toList with
        | true =>
          have hres : checkB s = some q := by rw [← HP2.out, partsBad_no h6 hno]
          have HR := Lib.hid hres
          rw [hno] at hsn
          clear h6 hno hres
          cases b1 : p.toList.isEmpty with
          | true =>
            clear hsn
            go_wp2
            go_ret
            exact retErr_fault (checkG_of HR.out) hB
          | false =>
            cases b2 : (p.toList == [46]) with
            | true =>
              clear hsn
              go_wp2
              go_ret
              exact retErr_fault (checkG_of HR.out) hB
            | false =>
              cases b3 : (p.toList == [46, 46]) with
              | true =>
                clear hsn
                go_wp2
                go_ret
                exact retErr_fault (checkG_of HR.out) hB
              | false =>
                rw [b1, b2, b3] at hsn
                have hz : (16 : Int) < (p.size : Int) := by
                  have hz0 : 16 < p.size := by simpa using hsn
                  omega
                clear hsn
                go_wp2
                go_ret
                exact retErr_fault (checkG_of HR.out) hB
        | false =>
          rw [hno] at hsn
          have h6' := h6
          have HNO := Lib.hid hno
          have H6 := Lib.hid h6
          clear hno h6 h6'
          cases b1 : p.toList.isEmpty with
          | true => rw [b1] at hsn; simp at hsn
          | false =>
            cases b2 : (p.toList == [46]) with
            | true => rw [b1, b2] at hsn; simp at hsn
            | false =>
              cases b3 : (p.toList == [46, 46]) with
              | true => rw [b1, b2, b3] at hsn; simp at hsn
              | false =>
                rw [b1, b2, b3] at hsn
                have hz : (p.size : Int) ≤ 16 := by
                  have hz0 : p.size ≤ 16 := by simpa using hsn
                  omega
                clear hsn
                go_wp2_with fail
                go_loop [52] (fun i => ∃ j : Nat, j ≤ p.size ∧ i = .int .i64 j ∧ badAt j (p.data.toList.drop j) = badAt 0 p.data.toList) (fun i => p.size - (intOf i).toNat)
                case atStart => exact ⟨0, by omega, rfl, rfl⟩
                case round =>
                  obtain ⟨j, hj, rfl, hbj⟩ := hrel
                  have HB := Lib.hid hbj
                  clear hbj
                  by_cases hjl : j < p.size
                  · cases hs : signB p[j] with
                    | true =>
                      have HS := Lib.hid (badAt_step (l := p.data.toList) (k := j) hjl hs)
                      go_wp2_with (go_at_call 90; refine (sign_any p[j] _).mono ?_; rintro e w' ⟨rfl, rfl⟩)
                      go_round
                      case rel => exact ⟨j + 1, by omega, by go_num, by rw [← HS.out]; exact HB.out⟩
                      case measure => simp [intOf]; omega
                    | false =>
                      have hres : checkB s = some (q + j) := by
                        rw [← HP2.out, partsBad_byte H6.out HNO.out (j := j)]
                        rw [← HB.out]
                        exact badAt_hit (l := p.data.toList) (k := j) hjl hs
                      have HR := Lib.hid hres
                      clear hres
                      go_wp2_with (go_at_call 90; refine (sign_any p[j] _).mono ?_; rintro e w' ⟨rfl, rfl⟩)
                      go_ret
                      exact retErr_fault (p := (q : Int) + j) (by rw [checkG_of HR.out]; congr 1) hB
                  · have hres : partsBad (k + 1) (q + (p.size + 1)) (((segs s).map (·.data.toList)).drop (k + 1)) = checkB s := by
                      rw [← HP2.out, partsBad_next H6.out HNO.out]
                      · rfl
                      · rw [← HB.out]
                        obtain rfl : j = p.size := by omega
                        exact badAt_end
                    have HR := Lib.hid hres
                    clear hres
                    go_wp2
                    go_round
                    case rel => exact ⟨k + 1, q + (p.size + 1), by have := H6.out; omega, by omega, by go_num, by go_num, by omega, HR.out⟩
                    case measure => simp [intOf]; omega
    · have hk : k = (segs s).length := by omega
      have hres : checkB s = none := by rw [← HP.out, hk, List.drop_of_length_le (by simp)]; rfl
      have HR := Lib.hid hres
      clear hres hk
      go_wp2
      go_ret
      exact ⟨_, rfl, by rw [checkG_none HR.out]; rfl, hB⟩
end Go.Proofs.YtlidenehfmlebaaGreatDoor
