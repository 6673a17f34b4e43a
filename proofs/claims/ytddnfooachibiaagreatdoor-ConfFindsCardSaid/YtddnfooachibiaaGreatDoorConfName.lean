/-
  conf.name, and the reference's functions on texts: name, find, trim.
-/
import Derived.Test.YtddnfooachibiaaGreatDoorConfLaws
import Derived.Test.YtddnfooachibiaaGreatDoorRefPath
import Derived.Test.YtddnfooachibiaaGreatDoorOwnKit
import Derived.Laws.RangeAny
set_option linter.unusedVariables false
set_option linter.unusedSimpArgs false
namespace Go.Proofs.YtddnfooachibiaaGreatDoor
open Go.RowKit
theorem alnumU_iff (c : UInt8) : alnumU c = true ↔ (97 ≤ (c.toNat : Int) ∧ (c.toNat : Int) ≤ 122) ∨ (65 ≤ (c.toNat : Int) ∧ (c.toNat : Int) ≤ 90) ∨ (48 ≤ (c.toNat : Int) ∧ (c.toNat : Int) ≤ 57) := by
  unfold alnumU digU
  simp only [Bool.or_eq_true, Bool.and_eq_true, decide_eq_true_eq]
  omega
theorem all_step {s : ByteArray} {k : Nat} (hk : k < s.size) (h : (s.data.toList.take k).all alnumU = true) (hc : alnumU s[k] = true) : (s.data.toList.take (k + 1)).all alnumU = true := by
  rw [List.take_succ_eq_append_getElem (by simpa using hk), List.all_append, h, List.all_cons, List.all_nil, Bool.and_true, Bool.true_and]
  exact hc
theorem mem_at {s : ByteArray} {k : Nat} (hk : k < s.size) : s[k] ∈ s.data.toList := List.getElem_mem (l := s.data.toList) (n := k) (by simpa using hk)
theorem all_miss {s : ByteArray} {k : Nat} (hk : k < s.size) (hc : alnumU s[k] = false) : s.data.toList.all alnumU = false := by
  rw [List.all_eq_false]
  exact ⟨s[k], mem_at hk, by rw [hc]; decide⟩
theorem nameC_empty {s : ByteArray} (h : s.size = 0) : nameC s = false := by
  have : s.data.toList = [] := List.length_eq_zero_iff.1 (by simpa using h)
  simp [nameC, this]
theorem nameC_long {s : ByteArray} (h : 16 < s.size) : nameC s = false := by
  have : s.data.toList.length = s.size := by simp
  simp [nameC]; omega
theorem nameC_mid {s : ByteArray} (h0 : s.size ≠ 0) (h1 : s.size ≤ 16) : nameC s = s.data.toList.all alnumU := by
  have hl : s.data.toList.length = s.size := by simp
  have : s.data.toList.isEmpty = false := by rw [← Bool.not_eq_true, List.isEmpty_iff_length_eq_zero, hl]; exact h0
  rw [nameC, this, decide_eq_true (by omega)]
  simp
theorem empty_of {s : ByteArray} (h : s.size = 0) : s.toList.isEmpty = true := by rw [ByteArray.toList_eq, List.isEmpty_iff_length_eq_zero, size_len]; exact h
theorem some_of {s : ByteArray} (h : s.size ≠ 0) : s.toList.isEmpty = false := by rw [ByteArray.toList_eq, ← Bool.not_eq_true, List.isEmpty_iff_length_eq_zero, size_len]; exact h
theorem ret_true' {b : Bool} (h : b = true) : Ending.returned (.bool true) = .returned (.bool b) := by rw [h]
theorem ret_false' {b : Bool} (h : b = false) : Ending.returned (.bool false) = .returned (.bool b) := by rw [h]
set_option maxRecDepth 100000 in
set_option maxHeartbeats 1000000 in
/-- conf.name. -/
theorem cname_any (s : ByteArray) (w : World) (hs : s.size ≤ 140737488351232) : Calls Tryz.prog 25 #[.string s] w fun e w' => e = .returned (.bool (nameC s)) ∧ Below w.heap.size w w' := by
  by_cases h0 : s.size = 0
  · have he := empty_of h0
    have HR := Lib.hid (nameC_empty h0)
    clear h0
    go_enter Tryz.func25, Tryz.ntmps25
    go_wp2_with fail
    go_ret
    exact ⟨ret_false' HR.out, Below.refl _ _⟩
  · have he := some_of h0
    by_cases h1 : 16 < s.size
    · have h16 : (16 : Int) < s.size := by omega
      have HR := Lib.hid (nameC_long h1)
      clear h0
      go_enter Tryz.func25, Tryz.ntmps25
      go_wp2_with fail
      go_ret
      exact ⟨ret_false' HR.out, Below.refl _ _⟩
    · have hle : (s.size : Int) ≤ 16 := by omega
      have HM := Lib.hid (nameC_mid h0 (by omega))
      clear h0 h1
      go_enter Tryz.func25, Tryz.ntmps25
      go_wp2_with fail
      go_loopw [] (fun wr => ∃ pos : Nat, wr = w.iter s pos ∧ pos ≤ s.size ∧ (s.data.toList.take pos).all alnumU = true) (fun wr => s.size - wr.iterPos w.heap.size)
      case atStart => exact ⟨0, rfl, by omega, rfl⟩
      case round =>
        obtain ⟨pos, rfl, hps, hall⟩ := hrel
        have HALL := Lib.hid hall
        clear hall
        by_cases hp : pos < s.size
        · by_cases ha : (s[pos]'hp).toNat < 128
          · have hnx : ∀ ty, (Instr.next (.pointer (some ⟨w.heap.size, 0, none⟩)) true ty).run Tryz.prog (w.iter s pos) = _ := fun ty => run_next_ascii w s pos ty hp ha
            obtain ⟨c, hc0⟩ : ∃ c, c = s[pos] := ⟨_, rfl⟩
            rw [← hc0] at hnx
            have HC := Lib.hid hc0
            clear hc0 ha
            cases hc : alnumU c with
            | true =>
              have HS := Lib.hid (all_step hp HALL.out (HC.out ▸ hc))
              have hbn : c.toNat < 256 := c.toNat_lt
              rcases (alnumU_iff _).1 hc with ⟨t1, t2⟩ | ⟨t1, t2⟩ | ⟨t1, t2⟩
              · clear hc
                go_wp2_with fail
                go_roundw
                case rel => exact ⟨pos + 1, rfl, by omega, HS.out⟩
                case measure => simp; omega
              · have t3 : ¬ (97 : Int) ≤ c.toNat := by omega
                clear hc
                go_wp2_with fail
                go_roundw
                case rel => exact ⟨pos + 1, rfl, by omega, HS.out⟩
                case measure => simp; omega
              · have t3 : ¬ (97 : Int) ≤ c.toNat := by omega
                have t4 : ¬ (65 : Int) ≤ c.toNat := by omega
                clear hc
                go_wp2_with fail
                go_roundw
                case rel => exact ⟨pos + 1, rfl, by omega, HS.out⟩
                case measure => simp; omega
            | false =>
              have HR : Hid (nameC s = false) := Lib.hid (by rw [HM.out]; exact all_miss hp (HC.out ▸ hc))
              have hno := fun h => (Bool.eq_false_iff.1 hc) ((alnumU_iff c).2 h)
              clear hc
              go_wp2_with fail
              all_goals first | (exfalso; apply hno; omega) | (go_ret; exact ⟨ret_false' HR.out, below_one _ _⟩)
          · have hhi := decode_high s pos hp (by omega)
            have hnx : ∀ ty, (Instr.next (.pointer (some ⟨w.heap.size, 0, none⟩)) true ty).run Tryz.prog (w.iter s pos) = _ := fun ty => run_next_any w s pos ty hp
            have HR : Hid (nameC s = false) := Lib.hid (by
              rw [HM.out]
              refine all_miss hp (Bool.eq_false_iff.2 fun h => ?_)
              have := (alnumU_iff _).1 h
              omega)
            obtain ⟨r, hr⟩ : ∃ r, r = (Utf8.decode s pos).1 := ⟨_, rfl⟩
            rw [← hr] at hhi hnx
            have t1 : (97 : Int) ≤ r := by omega
            have t2 : ¬ (r : Int) ≤ 122 := by omega
            have t3 : (65 : Int) ≤ r := by omega
            have t4 : ¬ (r : Int) ≤ 90 := by omega
            have t5 : (48 : Int) ≤ r := by omega
            have t6 : ¬ (r : Int) ≤ 57 := by omega
            clear hhi hr ha
            go_wp2_with fail
            go_ret
            exact ⟨ret_false' HR.out, below_one _ _⟩
        · have hnx : ∀ ty, (Instr.next (.pointer (some ⟨w.heap.size, 0, none⟩)) true ty).run Tryz.prog (w.iter s pos) = _ := fun ty => run_next_end w s pos ty hp
          have HR : Hid (nameC s = true) := Lib.hid (by
            rw [HM.out, ← HALL.out]
            congr 1
            exact (List.take_of_length_le (by simp; omega)).symm)
          go_wp2_with fail
          go_ret
          exact ⟨ret_true' HR.out, below_one _ _⟩
set_option maxRecDepth 100000 in
set_option maxHeartbeats 1000000 in
/-- The reference's name. -/
theorem rname_any (s : ByteArray) (w : World) (hs : s.size ≤ 140737488351232) : Calls Tryz.prog 53 #[.string s] w fun e w' => e = .returned (.bool (nameC s)) ∧ w' = w := by
  go_enter Tryz.func53, Tryz.ntmps53
  go_wp2_with fail
  go_loop [3] (fun i => ∃ k : Nat, k ≤ s.size ∧ i = .int .i64 k ∧ (s.data.toList.take k).all alnumU = true) (fun i => s.size - (intOf i).toNat)
  case atStart => exact ⟨0, by omega, rfl, rfl⟩
  case round =>
    obtain ⟨k, hk, rfl, hall⟩ := hrel
    have HALL := Lib.hid hall
    clear hall
    by_cases hp : k < s.size
    · cases hc : alnumU s[k] with
      | true =>
        have HS := Lib.hid (all_step hp HALL.out hc)
        rcases (alnumU_iff _).1 hc with ⟨t1, t2⟩ | ⟨t1, t2⟩ | ⟨t1, t2⟩
        · clear hc
          go_wp2_with fail
          go_round
          case rel => exact ⟨k + 1, by omega, by go_num, HS.out⟩
          case measure => simp [intOf]; omega
        · have t3 : ¬ (97 : Int) ≤ s[k].toNat := by omega
          clear hc
          go_wp2_with fail
          go_round
          case rel => exact ⟨k + 1, by omega, by go_num, HS.out⟩
          case measure => simp [intOf]; omega
        · have t3 : ¬ (97 : Int) ≤ s[k].toNat := by omega
          have t4 : ¬ (65 : Int) ≤ s[k].toNat := by omega
          clear hc
          go_wp2_with fail
          go_round
          case rel => exact ⟨k + 1, by omega, by go_num, HS.out⟩
          case measure => simp [intOf]; omega
      | false =>
        have HR : Hid (nameC s = false) := Lib.hid (by
          rw [nameC, all_miss hp hc]; simp)
        have hno := mt (alnumU_iff s[k]).2 (Bool.eq_false_iff.1 hc)
        have h4 : ((s[k].toNat : Int) < 48) ∨ ((57 : Int) < s[k].toNat ∧ (s[k].toNat : Int) < 65) ∨ ((90 : Int) < s[k].toNat ∧ (s[k].toNat : Int) < 97) ∨ (122 : Int) < s[k].toNat := by omega
        clear hc hno
        rcases h4 with h | ⟨h, h'⟩ | ⟨h, h'⟩ | h
        · have t1 : ¬ (97 : Int) ≤ s[k].toNat := by omega
          have t3 : ¬ (65 : Int) ≤ s[k].toNat := by omega
          have t5 : ¬ (48 : Int) ≤ s[k].toNat := by omega
          go_wp2_with fail
          go_ret
          exact ⟨ret_false' HR.out, rfl⟩
        · have t1 : ¬ (97 : Int) ≤ s[k].toNat := by omega
          have t3 : ¬ (65 : Int) ≤ s[k].toNat := by omega
          have t5 : (48 : Int) ≤ s[k].toNat := by omega
          have t6 : ¬ (s[k].toNat : Int) ≤ 57 := by omega
          go_wp2_with fail
          go_ret
          exact ⟨ret_false' HR.out, rfl⟩
        · have t1 : ¬ (97 : Int) ≤ s[k].toNat := by omega
          have t3 : (65 : Int) ≤ s[k].toNat := by omega
          have t4 : ¬ (s[k].toNat : Int) ≤ 90 := by omega
          have t5 : (48 : Int) ≤ s[k].toNat := by omega
          have t6 : ¬ (s[k].toNat : Int) ≤ 57 := by omega
          go_wp2_with fail
          go_ret
          exact ⟨ret_false' HR.out, rfl⟩
        · have t1 : (97 : Int) ≤ s[k].toNat := by omega
          have t2 : ¬ (s[k].toNat : Int) ≤ 122 := by omega
          have t3 : (65 : Int) ≤ s[k].toNat := by omega
          have t4 : ¬ (s[k].toNat : Int) ≤ 90 := by omega
          have t5 : (48 : Int) ≤ s[k].toNat := by omega
          have t6 : ¬ (s[k].toNat : Int) ≤ 57 := by omega
          go_wp2_with fail
          go_ret
          exact ⟨ret_false' HR.out, rfl⟩
    · obtain rfl : k = s.size := by omega
      have HA : Hid (s.data.toList.all alnumU = true) := Lib.hid (by
        have := HALL.out
        rwa [List.take_of_length_le (by simp)] at this)
      by_cases h0 : s.size = 0
      · have he := empty_of h0
        have HR := Lib.hid (nameC_empty h0)
        go_wp2_with fail
        go_ret
        exact ⟨ret_false' HR.out, rfl⟩
      · have he := some_of h0
        by_cases h1 : 16 < s.size
        · have h16 : decide ((s.size : Int) ≤ 16) = false := decide_eq_false (by omega)
          have HR := Lib.hid (nameC_long h1)
          go_wp2_with fail
          go_ret
          exact ⟨ret_false' HR.out, rfl⟩
        · have hle : decide ((s.size : Int) ≤ 16) = true := decide_eq_true (by omega)
          have HR := Lib.hid ((nameC_mid h0 (by omega)).trans HA.out)
          go_wp2_with fail
          go_ret
          exact ⟨ret_true' HR.out, rfl⟩
/-- The first place of a byte. -/
def findI (c : UInt8) : Nat → List UInt8 → Int
  | _, [] => -1
  | k, x :: r => if x = c then k else findI c (k + 1) r
theorem findI_cut (c : UInt8) : ∀ (l pre : List UInt8), c ∉ pre → (findI c pre.length l = -1 ∧ c ∉ pre ++ l) ∨ (∃ a b, pre ++ l = a ++ c :: b ∧ c ∉ a ∧ findI c pre.length l = (a.length : Int))
  | [], pre, h => .inl ⟨rfl, by simpa using h⟩
  | x :: r, pre, h => by
    rw [findI]
    by_cases e : x = c
    · subst e
      rw [if_pos rfl]
      exact .inr ⟨pre, r, rfl, h, rfl⟩
    · rw [if_neg e]
      have h2 : c ∉ pre ++ [x] := by simp [h]; exact fun q => e q.symm
      have := findI_cut c r (pre ++ [x]) h2
      simpa using this
theorem cut_miss {c : UInt8} {l : List UInt8} (h : c ∉ l) : Lib.cut l [c] = (l, [], false) := by
  unfold Lib.cut
  rcases Lib.index_spec l [c] with ⟨h1, _⟩ | ⟨i, h1, h2, h3, _⟩
  · rw [h1, if_neg (by omega)]
  · exfalso
    have := Lib.index_room l [c] (by omega)
    have h4 : [c] <+: l.drop i := by simpa [Lib.occAt] using h3
    obtain ⟨t, ht⟩ := h4
    have hm : c ∈ l.drop i := by rw [← ht]; simp
    exact h (List.mem_of_mem_drop hm)
/-- What the first place of a byte tells of a cut there. -/
theorem find_cut (c : UInt8) (l : List UInt8) : (findI c 0 l = -1 ∧ c ∉ l ∧ Lib.cut l [c] = (l, [], false)) ∨ (∃ a b, l = a ++ c :: b ∧ c ∉ a ∧ findI c 0 l = (a.length : Int) ∧ Lib.cut l [c] = (a, b, true)) := by
  rcases findI_cut c l [] (by simp) with ⟨h1, h2⟩ | ⟨a, b, h1, h2, h3⟩
  · exact .inl ⟨h1, h2, cut_miss h2⟩
  · have h1' : l = a ++ c :: b := h1
    exact .inr ⟨a, b, h1', h2, h3, by rw [h1']; exact cut_at h2⟩
theorem ret_int {a b : Int} (h : a = b) : Ending.returned (.int .i64 a) = .returned (.int .i64 b) := by rw [h]
set_option maxRecDepth 100000 in
set_option maxHeartbeats 1000000 in
/-- The reference's find. -/
theorem rfind_any (s : ByteArray) (c : UInt8) (w : World) (hs : s.size ≤ 140737488351232) : Calls Tryz.prog 31 #[.string s, .int .u8 c.toNat] w fun e w' => e = .returned (.int .i64 (findI c 0 s.data.toList)) ∧ w' = w := by
  go_enter Tryz.func31, Tryz.ntmps31
  go_wp2_with fail
  go_loop [5] (fun i => ∃ k : Nat, k ≤ s.size ∧ i = .int .i64 k ∧ findI c 0 s.data.toList = findI c k (s.data.toList.drop k)) (fun i => s.size - (intOf i).toNat)
  case atStart => exact ⟨0, by omega, rfl, rfl⟩
  case round =>
    obtain ⟨k, hk, rfl, hgo⟩ := hrel
    by_cases hp : k < s.size
    · have hdr : s.data.toList.drop k = s[k] :: s.data.toList.drop (k + 1) := by
        rw [List.drop_eq_getElem_cons (by simpa using hp)]; rfl
      rw [hdr, findI] at hgo
      clear hdr
      by_cases e : s[k] = c
      · rw [if_pos e] at hgo
        have HG := Lib.hid hgo
        have hb : ((s[k].toNat : Int) == (c.toNat : Int)) = true := by rw [beq_iff_eq, e]
        clear hgo e
        go_wp2_with fail
        go_ret
        exact ⟨ret_int HG.out.symm, rfl⟩
      · rw [if_neg e] at hgo
        have HG := Lib.hid hgo
        have hb : ((s[k].toNat : Int) == (c.toNat : Int)) = false := by rw [beq_eq_false_iff_ne]; intro h; exact e (UInt8.toNat_inj.1 (by omega))
        clear hgo e
        go_wp2_with fail
        go_round
        case rel => exact ⟨k + 1, by omega, by go_num, HG.out⟩
        case measure => simp [intOf]; omega
    · obtain rfl : k = s.size := by omega
      rw [List.drop_of_length_le (by simp), findI] at hgo
      have HG := Lib.hid hgo
      clear hgo
      go_wp2_with fail
      go_ret
      exact ⟨ret_int HG.out.symm, rfl⟩
theorem right_cons (x c : UInt8) (r : List UInt8) : Lib.trimRightB (x :: r) c = if Lib.trimRightB r c = [] ∧ x = c then [] else x :: Lib.trimRightB r c := by
  unfold Lib.trimRightB
  rw [List.reverse_cons, List.dropWhile_append]
  by_cases h : (r.reverse.dropWhile (· == c)) = []
  · rw [h]
    by_cases e : x = c
    · subst e; simp
    · simp [e, List.dropWhile_cons]
  · have h2 : (r.reverse.dropWhile (· == c)).isEmpty = false := by simpa using h
    rw [h2]
    simp [h]
theorem trim_comm (c : UInt8) : ∀ l : List UInt8, Lib.trimRightB (Lib.trimLeftB l c) c = Lib.trimB l c
  | [] => rfl
  | x :: r => by
    have ih := trim_comm c r
    unfold Lib.trimB at ih ⊢
    rw [right_cons]
    by_cases e : x = c
    · subst e
      have h1 : Lib.trimLeftB (x :: r) x = Lib.trimLeftB r x := by simp [Lib.trimLeftB, List.dropWhile_cons]
      rw [h1, ih]
      by_cases h : Lib.trimRightB r x = []
      · rw [if_pos ⟨h, rfl⟩, h]
      · rw [if_neg (by simp [h])]
        simp [Lib.trimLeftB, List.dropWhile_cons]
    · have h1 : Lib.trimLeftB (x :: r) c = x :: r := by simp [Lib.trimLeftB, List.dropWhile_cons, e]
      rw [h1, right_cons, if_neg (by simp [e])]
      simp [Lib.trimLeftB, List.dropWhile_cons, e]
theorem left_step {t : ByteArray} (h : 0 < t.size) (e : t[0] = 32) : Lib.trimLeftB (t.extract 1 t.size).data.toList 32 = Lib.trimLeftB t.data.toList 32 := by
  have hd : t.data.toList = t[0] :: t.data.toList.drop 1 := by
    have := List.drop_eq_getElem_cons (l := t.data.toList) (i := 0) (by simpa using h)
    rw [List.drop_zero] at this
    exact this
  rw [Lib.extract_from]
  conv => rhs; rw [hd, e]
  simp [Lib.trimLeftB, List.dropWhile_cons]
theorem left_stop {t : ByteArray} (h : 0 < t.size) (e : t[0] ≠ 32) : Lib.trimLeftB t.data.toList 32 = t.data.toList := by
  have hd : t.data.toList = t[0] :: t.data.toList.drop 1 := by
    have := List.drop_eq_getElem_cons (l := t.data.toList) (i := 0) (by simpa using h)
    rw [List.drop_zero] at this
    exact this
  rw [hd]
  simp [Lib.trimLeftB, List.dropWhile_cons, e]
theorem last_split {t : ByteArray} (h : 0 < t.size) : t.data.toList = t.data.toList.take (t.size - 1) ++ [t[t.size - 1]] := by
  have := List.take_succ_eq_append_getElem (l := t.data.toList) (i := t.size - 1) (by simp; omega)
  rw [List.take_of_length_le (by simp; omega)] at this
  exact this
theorem right_step {t : ByteArray} (h : 0 < t.size) (e : t[t.size - 1] = 32) : Lib.trimRightB (t.extract 0 (t.size - 1)).data.toList 32 = Lib.trimRightB t.data.toList 32 := by
  rw [Lib.extract_upto]
  conv => rhs; rw [last_split h, e]
  simp [Lib.trimRightB, List.dropWhile_cons]
theorem right_stop {t : ByteArray} (h : 0 < t.size) (e : t[t.size - 1] ≠ 32) : Lib.trimRightB t.data.toList 32 = t.data.toList := by
  rw [last_split h]
  simp [Lib.trimRightB, List.dropWhile_cons, e]
theorem none_of {t : ByteArray} (h : t.size = 0) : t.data.toList = [] := List.length_eq_zero_iff.1 (by simpa using h)
set_option maxRecDepth 100000 in
set_option maxHeartbeats 1000000 in
/-- The reference's trim. -/
theorem rtrim_any (s : ByteArray) (w : World) (hs : s.size ≤ 140737488351232) : Calls Tryz.prog 30 #[.string s] w fun e w' => e = .returned (.string (bA (Lib.trimB s.data.toList 32))) ∧ w' = w := by
  go_enter Tryz.func30, Tryz.ntmps30
  go_wp2_with fail
  go_loop [0] (fun v => ∃ t : ByteArray, v = .string t ∧ t.size ≤ s.size ∧ Lib.trimLeftB t.data.toList 32 = Lib.trimLeftB s.data.toList 32) (fun v => Lib.strSize v)
  case atStart => exact ⟨s, rfl, Nat.le_refl _, rfl⟩
  case round =>
    obtain ⟨t, rfl, htz, hl⟩ := hrel
    have HL := Lib.hid hl
    clear hl
    by_cases hc : ∃ h : 0 < t.size, t[0] = 32
    · obtain ⟨h0, e⟩ := hc
      have hi : (0 : Int) < t.size := by omega
      have hb : ((t[0].toNat : Int) == 32) = true := by rw [beq_iff_eq, e]; rfl
      have HN := Lib.hid ((left_step h0 e).trans HL.out)
      have h1 : 1 ≤ t.size := h0
      clear e
      go_wp2_with fail
      go_round
      case rel => exact ⟨_, rfl, by simp; omega, HN.out⟩
      case measure => simp [Lib.strSize] <;> omega
    · have HT : Hid (t.data.toList = Lib.trimLeftB s.data.toList 32) := Lib.hid (by
        rw [← HL.out]
        by_cases h0 : 0 < t.size
        · exact (left_stop h0 (fun e => hc ⟨h0, e⟩)).symm
        · rw [none_of (by omega)]; rfl)
      have hcase : (¬ (0 : Int) < t.size) ∨ ((0 : Int) < t.size ∧ ∃ h : 0 < t.size, ((t[0].toNat : Int) == 32) = false) := by
        by_cases h0 : 0 < t.size
        · refine .inr ⟨by omega, h0, ?_⟩
          rw [beq_eq_false_iff_ne]
          intro h
          exact hc ⟨h0, UInt8.toNat_inj.1 (by simp; omega)⟩
        · exact .inl (by omega)
      clear hc
      rcases hcase with hi | ⟨hi, h0, hb⟩
      all_goals (
        go_wp2_with fail
        go_loop [0] (fun v => ∃ x : ByteArray, v = .string x ∧ x.size ≤ s.size ∧ Lib.trimRightB x.data.toList 32 = Lib.trimRightB t.data.toList 32) (fun v => Lib.strSize v)
        case atStart => exact ⟨t, rfl, htz, rfl⟩
        case round =>
          obtain ⟨x, rfl, hxz, hl⟩ := hrel
          have HX := Lib.hid hl
          clear hl hi
          by_cases hc : ∃ h : 0 < x.size, x[x.size - 1] = 32
          · obtain ⟨h0, e⟩ := hc
            have hi : (0 : Int) < x.size := by omega
            have hb : ((x[x.size - 1].toNat : Int) == 32) = true := by rw [beq_iff_eq, e]; rfl
            have HN := Lib.hid ((right_step h0 e).trans HX.out)
            have h1 : 1 ≤ x.size := h0
            clear e
            go_wp2_with fail
            go_round
            case rel => exact ⟨_, rfl, by simp; omega, HN.out⟩
            case measure => (try simp [Lib.strSize]) <;> omega
          · have HR : Hid (x = bA (Lib.trimB s.data.toList 32)) := Lib.hid (by
              rw [← trim_comm, ← HT.out, ← HX.out, ← bA_self x]
              congr 1
              by_cases h0 : 0 < x.size
              · exact (right_stop h0 (fun e => hc ⟨h0, e⟩)).symm
              · rw [bA_list, none_of (show x.size = 0 by omega)]; rfl)
            have hcase : (¬ (0 : Int) < x.size) ∨ ((0 : Int) < x.size ∧ ∃ h : 0 < x.size, ((x[x.size - 1].toNat : Int) == 32) = false) := by
              by_cases h0 : 0 < x.size
              · refine .inr ⟨by omega, h0, ?_⟩
                rw [beq_eq_false_iff_ne]
                intro h
                exact hc ⟨h0, UInt8.toNat_inj.1 (by simp; omega)⟩
              · exact .inl (by omega)
            clear hc
            rcases hcase with hi | ⟨hi, h0, hb⟩
            all_goals (
              go_wp2_with fail
              go_ret
              exact ⟨ret_str HR.out, rfl⟩))
end Go.Proofs.YtddnfooachibiaaGreatDoor
