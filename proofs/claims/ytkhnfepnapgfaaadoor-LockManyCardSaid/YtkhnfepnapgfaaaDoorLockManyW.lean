/-
  The law LockMany, walked.
-/
import Derived.Test.YtkhnfepnapgfaaaDoorLockHead
set_option linter.unusedVariables false
set_option linter.unusedSimpArgs false
namespace Go.Proofs.YtkhnfepnapgfaaaDoor
open Go.RowKit
/-- k have asked for nothing, in line. -/
def Many (q : List LRow) (k : Nat) : Prop := q.length = k ∧ ∀ j (h : j < q.length), q[j].who = j ∧ q[j].paths = [] ∧ q[j].has = true
theorem many_find {q : List LRow} {k : Nat} (h : Many q k) (x : Int) (hx : (k : Int) ≤ x) : findQ q x = -1 := by
  refine firstB_miss (fun j hj => ?_)
  have := (h.2 j hj).1
  have hl := h.1
  simp [List.getD, hj, this]
  omega
theorem many_meet {q : List LRow} (h : ∀ a ∈ q, a.paths = []) (ys : List ByteArray) : (q.any fun a => meetB a.paths ys) = false := by
  rw [List.any_eq_false]
  intro a ha
  rw [h a ha]
  simp [meetB]
theorem Many.paths {q : List LRow} {k : Nat} (h : Many q k) : ∀ a ∈ q, a.paths = [] := fun a ha => by
  obtain ⟨j, hj, rfl⟩ := List.getElem_of_mem ha
  exact (h.2 j hj).2.1
theorem many_err {q : List LRow} {k : Nat} (h : Many q k) (hk : k < 64) : askErr q k [] = .nil := by
  rw [askErr, many_find h k (Int.le_refl _), if_neg (by decide), if_neg (by have := h.1; omega), if_neg (by simp)]
  rfl
theorem many_has {q : List LRow} {k : Nat} (h : Many q k) (hk : k < 64) : askHas q k [] = true := by
  rw [askHas, many_err h hk, many_meet h.paths]
  rfl
theorem many_next {q : List LRow} {k : Nat} (h : Many q k) (hk : k < 64) (v : Value) : Many (askNext q k [] v) (k + 1) := by
  rw [askNext, many_err h hk, if_pos (show GErr.nil.num = 0 from rfl), many_has h hk]
  refine ⟨by simp [h.1], fun j hj => ?_⟩
  by_cases e : j < q.length
  · rw [List.getElem_append_left e]
    exact h.2 j e
  · have hj2 : j = q.length := by simp at hj; omega
    subst hj2
    rw [List.getElem_append_right (Nat.le_refl _)]
    simp [h.1, setGo, SetR.outs]
theorem full_err {q : List LRow} {k : Nat} (h : Many q 64) (hk : 64 ≤ k) : askErr q k [] = .errno 3 := by
  rw [askErr, many_find h k (by omega), if_neg (by decide), if_pos h.1]
theorem full_has {q : List LRow} {k : Nat} (h : Many q 64) (hk : 64 ≤ k) : askHas q k [] = false := by
  rw [askHas, full_err h hk]; rfl
theorem full_next {q : List LRow} {k : Nat} (h : Many q 64) (hk : 64 ≤ k) (v : Value) : askNext q k [] v = q := by
  rw [askNext, full_err h hk]; rfl
theorem wake_all {q : List LRow} (h : ∀ a ∈ q, a.has = true) : ∀ k, k ≤ q.length → wake q k = (q, [])
  | 0, _ => rfl
  | k + 1, hk => by
    have ih := wake_all h k (by omega)
    have hh : (q.getD k zRow).has = true := by
      rw [List.getD_eq_getElem?_getD, List.getElem?_eq_getElem (by omega)]
      exact h _ (List.getElem_mem _)
    rw [wake, ih, if_neg (by simp only [hh]; simp)]
theorem many_find7 {q : List LRow} (h : Many q 64) : findQ q 7 = 7 := by
  have hl := h.1
  refine (firstB_hit (k := 7) (by omega) ?_ (fun j hj => ?_)).trans rfl
  · have h7 : 7 < q.length := by omega
    have := (h.2 7 h7).1
    simp [List.getD, h7, this]
  · have hjl : j < q.length := by omega
    have := (h.2 j hjl).1
    simp [List.getD, hjl, this]
    omega
theorem many_rel {q : List LRow} (h : Many q 64) : relQ q 7 = (q.eraseIdx 7, [], 0) := by
  have hl := h.1
  have hw : wake (q.eraseIdx 7) (q.length - 1) = (q.eraseIdx 7, []) := wake_all (fun a ha => by
    have ha2 := List.mem_of_mem_eraseIdx ha
    obtain ⟨j, hj, rfl⟩ := List.getElem_of_mem ha2
    exact (h.2 j hj).2.2) _ (by rw [List.length_eraseIdx, if_pos (by omega)]; omega)
  rw [relQ, many_find7 h, if_pos (by decide)]
  show ((wake (q.eraseIdx 7) (q.length - 1)).1, (wake (q.eraseIdx 7) (q.length - 1)).2, 0) = _
  rw [hw]
theorem rel_err {q : List LRow} (h : Many q 64) : askErr (q.eraseIdx 7) 100 [tA] = .nil := by
  have hl := h.1
  have hf : findQ (q.eraseIdx 7) 100 = -1 := firstB_miss (fun j hj => by
    have hm := List.mem_of_mem_eraseIdx (List.getElem_mem hj)
    obtain ⟨i, hi, he⟩ := List.getElem_of_mem hm
    have := (h.2 i hi).1
    rw [List.getD_eq_getElem?_getD, List.getElem?_eq_getElem hj, Option.getD_some, ← he, this]
    simp
    omega)
  rw [askErr, hf, if_neg (by decide), if_neg (by rw [List.length_eraseIdx, if_pos (by omega)]; omega), if_neg (by simp)]
  have hs : setGo 0 [] [tA] = .ok [tA] := by kernel_rfl
  rw [hs]; rfl
theorem rel_has {q : List LRow} (h : Many q 64) : askHas (q.eraseIdx 7) 100 [tA] = true := by
  rw [askHas, rel_err h, many_meet (fun a ha => h.paths a (List.mem_of_mem_eraseIdx ha))]
  rfl
theorem rel_len {q : List LRow} (h : Many q 64) (v : Value) : (askNext (q.eraseIdx 7) 100 [tA] v).length = 64 := by
  have hl := h.1
  rw [askNext, rel_err h, if_pos (show GErr.nil.num = 0 from rfl), List.length_append, List.length_eraseIdx, if_pos (by omega), hl]
  rfl
set_option maxRecDepth 100000 in
set_option maxHeartbeats 4000000 in
theorem lockMany_walk (n : Int) (w : World) (hn : (Lit.int .i64 n).wf = true) (hg : Env w) : Calls Tryd.prog 13 #[.int .i64 n] w fun e w' => e = .returned (.bool true) ∧ Below w.heap.size w w' := by
  have HK := Lib.hid (locks_any w hg.ml)
  have HG := Lib.hid hg
  clear hg
  by_cases hr : 0 ≤ n ∧ n ≤ 70
  · obtain ⟨m, rfl⟩ := Int.eq_ofNat_of_zero_le hr.1
    have hm : m ≤ 70 := by omega
    have c1 : decide ((m : Int) < 0) = false := by simp
    have c2 : decide ((70 : Int) < (m : Int)) = false := by simp; omega
    clear hr
    go_enter Tryd.func13, Tryd.ntmps13
    go_wp2_with fail
    refine HK.out.mono ?_
    rintro e w1 ⟨rfl, hb1⟩
    go_wp2_with fail
    refine (new_any w1 w.heap.size hb1.size).mono ?_
    rintro e w2 ⟨rfl, hb2, hl2⟩
    have HL2 := Lib.hid hl2
    have HB2 := Lib.hid (below_from hb1 hb2)
    clear hl2 hb2
    go_wp2_with fail
    go_loopw [21] (fun i wr => ∃ k : Nat, k ≤ m ∧ i = .int .i64 k ∧ Below w.heap.size w wr ∧ ∃ q, LocksAt wr w.heap.size w1.heap.size q ∧ Many q (min k 64)) (fun i _ => m - (intOf i).toNat)
    case atStart => exact ⟨0, by omega, rfl, HB2.out, [], HL2.out, rfl, fun j hj => by simp at hj⟩
    case round =>
      obtain ⟨k, hk, rfl, hbr, q, hlr, hmq⟩ := hrel
      have HBR := Lib.hid hbr
      have HLR := Lib.hid hlr
      have HMQ := Lib.hid hmq
      have hql : q.length ≤ 64 := by have := hmq.1; omega
      have HGR := Lib.hid (HG.out.below hbr)
      clear hbr hlr hmq
      by_cases hlt : k < m
      · have hask := ask_any w1.heap.size k none 0 [] q wr (base := w.heap.size) hql HLR.out HBR.out.size (by simp) (fun h => absurd h (by simp)) (fun s hs => by cases hs) HGR.out.ml
        have HASK := Lib.hid hask
        clear hask
        by_cases h64 : k < 64
        · have hm2 : Many q k := by have := HMQ.out; rwa [Nat.min_eq_left (by omega)] at this
          have HM2 := Lib.hid hm2
          have c64 : decide ((k : Int) < 64) = true := by simp; omega
          clear hm2
          go_wp2_with fail
          refine HASK.out.mono ?_
          rintro e w3 ⟨er, v, rfl, hve, hl3, hb3, _⟩
          rw [many_err HM2.out h64] at hve
          obtain rfl : er = .nilIface := hve
          rw [many_has HM2.out h64]
          have HL3 := Lib.hid hl3
          clear hl3
          go_wp2_with fail
          go_roundw
          case rel => exact ⟨k + 1, by omega, by go_num, HBR.out.trans hb3, _, HL3.out, by rw [Nat.min_eq_left (by omega)]; exact many_next HM2.out h64 v⟩
          case measure => simp [intOf]; omega
        · have hm2 : Many q 64 := by have := HMQ.out; rwa [Nat.min_eq_right (by omega)] at this
          have HM2 := Lib.hid hm2
          have c64 : decide ((k : Int) < 64) = false := by simp; omega
          clear hm2
          go_wp2_with fail
          refine HASK.out.mono ?_
          rintro e w3 ⟨er, v, rfl, hve, hl3, hb3, _⟩
          rw [full_err HM2.out (by omega)] at hve
          obtain rfl : er = .iface 36 (.int .i64 3) := hve
          rw [full_has HM2.out (by omega)]
          rw [full_next HM2.out (by omega)] at hl3
          have HL3 := Lib.hid hl3
          have HB3 := Lib.hid (HBR.out.trans hb3)
          clear hl3 hb3
          go_wp2_with fail
          refine (number _ (.errno 3) _ rfl (HG.out.below HB3.out)).mono ?_
          rintro e w4 ⟨rfl, hb4⟩
          simp only [GErr.num]
          go_wp2_with fail
          go_roundw
          case rel => exact ⟨k + 1, by omega, by go_num, below_from HB3.out hb4, q, HL3.out.below hb4, by rw [Nat.min_eq_right (by omega)]; exact HM2.out⟩
          case measure => simp [intOf]; omega
      · obtain rfl : k = m := by omega
        by_cases h64 : k ≤ 64
        · have c64 : decide ((k : Int) ≤ 64) = true := by simp; omega
          have hl : q.length = k := by have := HMQ.out.1; omega
          go_wp2_with fail
          refine (len_any w1.heap.size q _ HLR.out).mono ?_
          rw [hl]
          rintro e w3 ⟨rfl, rfl⟩
          go_wp2_with fail
          go_ret
          exact ⟨rfl, HBR.out⟩
        · have c64 : decide ((k : Int) ≤ 64) = false := by simp; omega
          have hm2 : Many q 64 := by have := HMQ.out; rwa [Nat.min_eq_right (by omega)] at this
          have HM2 := Lib.hid hm2
          clear hm2
          go_wp2_with fail
          refine (release_any w1.heap.size 7 q _ (base := w.heap.size) hql HLR.out HBR.out.size).mono ?_
          rintro e w3 ⟨v3, rfl, ho3, hl3, hb3, _⟩
          rw [many_rel HM2.out] at hl3 ⊢
          have HL3 := Lib.hid hl3
          have HB3 := Lib.hid (HBR.out.trans hb3)
          clear hl3 hb3 ho3
          go_wp2_with fail
          have hb4 : Below w.heap.size w (w3.alloc (.cells #[.string tA] 9)) := HB3.out.alloc HB3.out.size _
          have hql2 : (q.eraseIdx 7).length ≤ 64 := by have := HM2.out.1; rw [List.length_eraseIdx]; split <;> omega
          refine (ask_any w1.heap.size 100 (some ⟨w3.heap.size, 0, none⟩) 1 [tA] (q.eraseIdx 7) (w3.alloc (.cells #[.string tA] 9)) (base := w.heap.size) hql2 (HL3.out.below (below_one _ _)) hb4.size (by simp) (lit1_row w3 tA) (by decide) (HG.out.below hb4).ml).mono ?_
          rintro e w5 ⟨er, v5, rfl, hve, hl5, hb5, _⟩
          rw [rel_err HM2.out] at hve
          obtain rfl : er = .nilIface := hve
          rw [rel_has HM2.out]
          have HL5 := Lib.hid hl5
          have HB5 := Lib.hid (hb4.trans hb5)
          clear hl5 hb4 hb5
          go_wp2_with fail
          refine (len_any w1.heap.size _ _ HL5.out).mono ?_
          rw [rel_len HM2.out]
          rintro e w6 ⟨rfl, rfl⟩
          go_wp2_with fail
          go_ret
          exact ⟨rfl, HB5.out⟩
  · go_enter Tryd.func13, Tryd.ntmps13
    by_cases hneg : n < 0
    · have c1 : decide (n < 0) = true := by simp; omega
      go_wp2_with fail
      refine HK.out.mono ?_
      rintro e w1 ⟨rfl, hb1⟩
      go_wp2_with fail
      go_ret
      exact ⟨rfl, hb1⟩
    · have c1 : decide (n < 0) = false := by simp; omega
      have c2 : decide (70 < n) = true := by simp; omega
      go_wp2_with fail
      refine HK.out.mono ?_
      rintro e w1 ⟨rfl, hb1⟩
      go_wp2_with fail
      go_ret
      exact ⟨rfl, hb1⟩
end Go.Proofs.YtkhnfepnapgfaaaDoor
