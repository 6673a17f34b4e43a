/-
  The law LockAgain, walked.
-/
import Derived.Test.YtkhnfepnapgfaaaDoorLockAgainP
import Derived.Test.YtkhnfepnapgfaaaDoorLockHead
set_option linter.unusedVariables false
set_option linter.unusedSimpArgs false
namespace Go.Proofs.YtkhnfepnapgfaaaDoor
open Go.RowKit
open Go.Proofs.YtkhnfepnapgfaaaDoorW.PrintWords (Kd ReadsRow)
theorem start_err1 : askErr [] (-1) [tX] = .nil := by kernel_rfl
theorem start_has1 : askHas [] (-1) [tX] = true := by kernel_rfl
theorem start_next1 (v : Value) : askNext [] (-1) [tX] v = [⟨-1, v, [tX], true⟩] := by
  rw [askNext, start_err1, set_X, start_has1]; rfl
theorem start_err2 (v : Value) : askErr [⟨-1, v, [tX], true⟩] (-2) [tY] = .nil := by kernel_rfl
theorem start_next2 (v v' : Value) : askNext [⟨-1, v, [tX], true⟩] (-2) [tY] v' = [⟨-1, v, [tX], true⟩, ⟨-2, v', [tY], true⟩] := by
  have h : askHas [⟨-1, v, [tX], true⟩] (-2) [tY] = true := by kernel_rfl
  rw [askNext, start_err2, set_Y, h]; rfl
theorem start_stA (v v' : Value) : StA [⟨-1, v, [tX], true⟩, ⟨-2, v', [tY], true⟩] [] := by
  refine ⟨fun i hi => ?_, rfl, fun w hw => by cases hw⟩
  match i, hi with
  | 0, _ => rfl
  | 1, _ =>
    show true = freeQ _ 1
    rw [freeQ_sig _ (by simp)]
    exact (canA1 []).symm
/-- A row of whole numbers. -/
def IntRow (w : World) (A : Option Addr) (l : List Int) : Prop := 0 < l.length → ∃ ad, A = some ad ∧ ∀ k (h : k < l.length), w.cell? (ad.add k) = some (.int .i64 l[k])
theorem intRow_of {w : World} {A : Option Addr} {l : List Int} (h : Kd.C (Kd.int .i64) w A l.length l) : IntRow w A l := by
  intro hn
  obtain ⟨ad, e, hc⟩ := h.2.2 hn
  refine ⟨ad, e, fun k hk => ?_⟩
  obtain ⟨c, _, hK, hcell⟩ := hc k _ (List.getElem?_eq_getElem hk)
  have hK' : c = [.int .i64 l[k]] := hK
  subst hK'
  have := hcell 0 _ rfl
  simpa [Kd.int, Kd.scalar] using this
theorem own_len {w : World} {base n : Nat} {e : TypeId} {v : Value} {xs : List Value} (h : w.ownsRow base e 1 v n xs) : ∃ A c, v = .slice A n c := by
  rcases h.2 with ⟨rfl, rfl⟩ | ⟨g, cap, cur, rfl, _⟩
  · exact ⟨_, _, rfl⟩
  · exact ⟨_, _, rfl⟩
theorem smallX : ∀ s ∈ [tX], s.size ≤ 140737488351232 := by decide
theorem smallY : ∀ s ∈ [tY], s.size ≤ 140737488351232 := by decide
set_option maxRecDepth 100000 in
set_option maxHeartbeats 4000000 in
theorem lockAgain_walk (v : Value) (l : List Int) (w : World) (hv : SliceArg (Kd.int .i64) w v l) (hs : ∀ x ∈ l, (Lit.int .i64 x).wf = true) (hg : EnvM w) :
    Calls Tryd.prog 5 #[v] w fun e w' => e = .returned (.bool true) ∧ Below w.heap.size w w' := by
  obtain ⟨A, c, rfl, hlc, hcm, hC⟩ := hv
  have HK := Lib.hid (locks_any w hg)
  have HG := Lib.hid hg
  have HR := Lib.hid (intRow_of hC)
  clear hg hC hs
  have hmx : (maxLen : Nat) = 9223372036854775807 := rfl
  by_cases hl : l.length ≤ 20
  · have hl2 : decide ((20 : Int) < (l.length : Int)) = false := by simp; omega
    go_enter Tryd.func5, Tryd.ntmps5
    go_wp2_with fail
    refine HK.out.mono ?_
    rintro e w1 ⟨rfl, hb1⟩
    go_wp2_with fail
    refine (new_any w1 w.heap.size hb1.size).mono ?_
    rintro e w2 ⟨rfl, hb2, hl2'⟩
    have HL2 := Lib.hid hl2'
    have HB2 := Lib.hid (below_from hb1 hb2)
    clear hl2' hb2 hb1
    go_wp2_with fail
    have hb3 : Below w.heap.size w (w2.alloc (.cells #[.string tX] 9)) := HB2.out.alloc HB2.out.size _
    refine (ask_any w1.heap.size (-1) (some ⟨w2.heap.size, 0, none⟩) 1 [tX] [] (w2.alloc (.cells #[.string tX] 9)) (base := w.heap.size) (by simp) (HL2.out.below (below_one _ _)) hb3.size (by simp) (lit1_row w2 tX) smallX (HG.out.below hb3)).mono ?_
    rintro e w4 ⟨er, v1, rfl, hve, hl4, hb4, _⟩
    rw [start_err1] at hve
    obtain rfl : er = .nilIface := hve
    rw [start_next1] at hl4
    have HL4 := Lib.hid hl4
    have HB4 := Lib.hid (hb3.trans hb4)
    clear hl4 hb3 hb4 HL2 HB2
    go_wp2_with fail
    have hb5 : Below w.heap.size w (w4.alloc (.cells #[.string tY] 9)) := HB4.out.alloc HB4.out.size _
    refine (ask_any w1.heap.size (-2) (some ⟨w4.heap.size, 0, none⟩) 1 [tY] [⟨-1, v1, [tX], true⟩] (w4.alloc (.cells #[.string tY] 9)) (base := w.heap.size) (by simp) (HL4.out.below (below_one _ _)) hb5.size (by simp) (lit1_row w4 tY) smallY (HG.out.below hb5)).mono ?_
    rintro e w6 ⟨er, v2, rfl, hve, hl6, hb6, _⟩
    rw [start_err2] at hve
    obtain rfl : er = .nilIface := hve
    rw [start_next2] at hl6
    have HL6 := Lib.hid hl6
    have HB6 := Lib.hid (hb5.trans hb6)
    clear hl6 hb5 hb6 HL4 HB4
    go_wp2_with fail
    go_loopw [4, 29] (fun nn i wr => ∃ k : Nat, k ≤ l.length ∧ i = .int .i64 k ∧ ∃ (q : List LRow) (ws : List Int), nn = .int .i64 ws.length ∧ ws.length ≤ k ∧ LocksAt wr w.heap.size w1.heap.size q ∧ Below w.heap.size w wr ∧ StA q ws) (fun _ i _ => l.length - (intOf i).toNat)
    case atStart => exact ⟨0, by omega, rfl, _, [], rfl, by simp, HL6.out, HB6.out, start_stA v1 v2⟩
    case round =>
      obtain ⟨k, hk, rfl, q, ws, rfl, hwk, hlr, hbr, hst⟩ := hrel
      have HLR := Lib.hid hlr
      have HBR := Lib.hid hbr
      have HST := Lib.hid hst
      have HWS := Lib.hid hst.2.2
      have hqlen := stA_len hst
      clear hlr hbr hst
      by_cases hlt : k < l.length
      · obtain ⟨x, hx⟩ : ∃ x, x = l[k] := ⟨_, rfl⟩
        obtain ⟨ad, rfl, hT⟩ := HR.out (by omega)
        have hcell := hT k hlt
        rw [← hx] at hcell
        replace hcell := (HBR.out.cell (lt_of_cell hcell)).trans hcell
        clear hT hx
        by_cases hneg : x < 0
        · have d1 : decide (x < 0) = true := by simp; omega
          go_wp2_with fail
          go_roundw
          case rel => exact ⟨k + 1, by omega, by go_num, q, ws, rfl, by omega, HLR.out, HBR.out, HST.out⟩
          case measure => simp [intOf]; omega
        · have d1 : decide (x < 0) = false := by simp; omega
          have hx0 : 0 ≤ x := by omega
          have HAS := Lib.hid (has_any w1.heap.size x q _ (by omega) HLR.out)
          by_cases hmem : x ∈ ws
          · have hp := has_present ((stA_who HST.out hx0).2 hmem)
            cases hh : hasQ q x with
            | true =>
              have HH := Lib.hid hh
              clear hh hp
              go_wp2_with fail
              refine HAS.out.mono ?_
              rw [HH.out]
              rintro e w3 ⟨rfl, hb3⟩
              go_wp2_with fail
              go_roundw
              case rel => exact ⟨k + 1, by omega, by go_num, q, ws, rfl, by omega, HLR.out.below hb3, below_from HBR.out hb3, HST.out⟩
              case measure => simp [intOf]; omega
            | false =>
              rw [hh] at hp
              have HH := Lib.hid hh
              have HP := Lib.hid hp
              clear hh hp
              go_wp2_with fail
              refine HAS.out.mono ?_
              rw [HH.out]
              rintro e w3 ⟨rfl, hb3⟩
              go_wp2_with fail
              refine (waits_any w1.heap.size x q _ (by omega) (HLR.out.below hb3)).mono ?_
              rw [HP.out]
              rintro e w4' ⟨rfl, hb4⟩
              go_wp2_with fail
              go_roundw
              case rel => exact ⟨k + 1, by omega, by go_num, q, ws, rfl, by omega, (HLR.out.below hb3).below hb4, below_from (below_from HBR.out hb3) hb4, HST.out⟩
              case measure => simp [intOf]; omega
          · have HAB := Lib.hid (has_absent (fun hm => hmem ((stA_who HST.out hx0).1 hm)))
            have HNM := Lib.hid hmem
            clear hmem
            go_wp2_with fail
            refine HAS.out.mono ?_
            rw [HAB.out.2.1]
            rintro e w3 ⟨rfl, hb3⟩
            go_wp2_with fail
            refine (waits_any w1.heap.size x q _ (by omega) (HLR.out.below hb3)).mono ?_
            rw [HAB.out.2.2]
            rintro e w4' ⟨rfl, hb4⟩
            have HL4' := Lib.hid ((HLR.out.below hb3).below hb4)
            have HB4' := Lib.hid (below_from (below_from HBR.out hb3) hb4)
            clear hb3 hb4
            go_wp2_with fail
            have hb5 : Below w.heap.size w (w4'.alloc (.cells #[.string tX] 9)) := HB4'.out.alloc HB4'.out.size _
            obtain ⟨he5, hh5, hn5⟩ := stA_ask HST.out hx0 HNM.out (by omega)
            refine (ask_any w1.heap.size x (some ⟨w4'.heap.size, 0, none⟩) 1 [tX] q (w4'.alloc (.cells #[.string tX] 9)) (base := w.heap.size) (by omega) (HL4'.out.below (below_one _ _)) hb5.size (by simp) (lit1_row w4' tX) smallX (HG.out.below hb5)).mono ?_
            rintro e w7 ⟨er, v7, rfl, hve, hl7, hb7, _⟩
            rw [he5] at hve
            obtain rfl : er = .nilIface := hve
            rw [hh5]
            have HL7 := Lib.hid hl7
            have HB7 := Lib.hid (hb5.trans hb7)
            have HN7 := Lib.hid (hn5 v7)
            clear hl7 hb5 hb7 he5 hh5 hn5
            go_wp2_with fail
            go_roundw
            case rel => exact ⟨k + 1, by omega, by go_num, _, ws ++ [x], by (rw [List.length_append, List.length_singleton]; go_num), by simp; omega, HL7.out, HB7.out, HN7.out⟩
            case measure => simp [intOf]; omega
      · have hws20 : ws.length ≤ 20 := by omega
        by_cases hwl0 : ws.length = 0
        · have hwl : ws.length = 0 := hwl0
          rw [hwl0]
          go_wp2_with fail
          refine (release_any w1.heap.size (-1) q _ (base := w.heap.size) (by have := stA_len HST.out; omega) HLR.out HBR.out.size).mono ?_
          rintro e w3 ⟨v3, rfl, ho3, hl3, hb3, _⟩
          obtain ⟨hst3, he3⟩ := stA_rel HST.out
          have htold := stA_told HST.out
          rw [he3]
          obtain ⟨A3, c3, rfl⟩ := own_len ho3
          rw [htold, hwl]
          obtain ⟨q3, hq3⟩ : ∃ q3, q3 = (relQ q (-1)).1 := ⟨_, rfl⟩
          rw [← hq3] at hl3 hst3
          have HL3 := Lib.hid hl3
          have HB3 := Lib.hid (HBR.out.trans hb3)
          have HST3 := Lib.hid hst3
          clear hl3 hb3 ho3 hst3 he3 htold hq3
          go_wp2_with fail
          have hb4 : Below w.heap.size w (w3.alloc (.cells #[.string tX] 9)) := HB3.out.alloc HB3.out.size _
          obtain ⟨he5, hh5, hn5⟩ := stC_ask HST3.out HWS.out (by omega)
          refine (ask_any w1.heap.size (-1) (some ⟨w3.heap.size, 0, none⟩) 1 [tX] q3 (w3.alloc (.cells #[.string tX] 9)) (base := w.heap.size) (by have := stC_len HST3.out; omega) (HL3.out.below (below_one _ _)) hb4.size (by simp) (lit1_row w3 tX) smallX (HG.out.below hb4)).mono ?_
          rintro e w5 ⟨er, v5, rfl, hve, hl5, hb5, _⟩
          rw [he5] at hve
          obtain rfl : er = .nilIface := hve
          rw [hh5, hwl]
          obtain ⟨q5, hq5⟩ : ∃ q5, q5 = askNext q3 (-1) [tX] v5 := ⟨_, rfl⟩
          have hst5 := hn5 v5
          rw [← hq5] at hl5 hst5
          have HL5 := Lib.hid hl5
          have HB5 := Lib.hid (hb4.trans hb5)
          have HST5 := Lib.hid hst5
          clear hl5 hb4 hb5 hst5 he5 hh5 hn5 hq5
          go_wp2_with fail
          refine (has_any w1.heap.size (-2) q5 _ (by have := stC_len HST5.out; simp at this; omega) HL5.out).mono ?_
          rw [stC_two HST5.out]
          rintro e w6' ⟨rfl, hb6⟩
          have HL7 := Lib.hid (HL5.out.below hb6)
          have HB7 := Lib.hid (below_from HB5.out hb6)
          clear hb6 HL5 HB5
          go_wp2_with fail
          go_loopw [4] (fun nn wr => ∃ (q : List LRow) (xs : List Int), nn = .int .i64 xs.length ∧ xs.length ≤ 20 ∧ LocksAt wr w.heap.size w1.heap.size q ∧ Below w.heap.size w wr ∧ StC q (xs ++ [-1]) ∧ ∀ x ∈ xs, 0 ≤ x) (fun nn _ => (intOf nn).toNat)
          case atStart => exact ⟨q5, ws, by rw [hwl]; try rfl, by omega, HL7.out, HB7.out, HST5.out, HWS.out⟩
          case round =>
            obtain ⟨q8, xs, rfl, hx20, hl8, hb8, hst8, hx8⟩ := hrel
            have HL8 := Lib.hid hl8
            have HB8 := Lib.hid hb8
            have HST8 := Lib.hid hst8
            have HX8 := Lib.hid hx8
            have hlen8 := stC_len hst8
            simp only [List.length_append, List.length_singleton] at hlen8
            clear hl8 hb8 hst8 hx8
            cases xs with
            | nil =>
              simp only [List.length_nil] at *
              go_wp2_with fail
              refine (has_any w1.heap.size (-1) q8 _ (by omega) HL8.out).mono ?_
              rw [stC_end HST8.out]
              rintro e w9 ⟨rfl, hb9⟩
              go_wp2_with fail
              refine (has_any w1.heap.size (-2) q8 _ (by omega) (HL8.out.below hb9)).mono ?_
              rw [stC_two HST8.out]
              rintro e w10 ⟨rfl, hb10⟩
              go_wp2_with fail
              refine (len_any w1.heap.size q8 _ ((HL8.out.below hb9).below hb10)).mono ?_
              rw [hlen8]
              rintro e w11 ⟨rfl, rfl⟩
              go_wp2_with fail
              go_ret
              exact ⟨rfl, below_from (below_from HB8.out hb9) hb10⟩
            | cons x xs =>
              have hx0 := HX8.out x (by simp)
              have d1 : decide ((0 : Int) < ((xs.length + 1 : Nat) : Int)) = true := decide_eq_true (by omega)
              have d2 : (x == -1) = false := by simp; omega
              simp only [List.length_cons] at hlen8 hx20 ⊢
              go_wp2_with fail
              refine (holder_any w1.heap.size tX q8 _ (by omega) HL8.out).mono ?_
              rw [stC_hold HST8.out]
              rintro e w9 ⟨rfl, hb9⟩
              go_wp2_with fail
              refine (release_any w1.heap.size x q8 _ (base := w.heap.size) (by omega) (HL8.out.below hb9) (below_from HB8.out hb9).size).mono ?_
              rintro e w10 ⟨v10, rfl, ho10, hl10, hb10, _⟩
              have HL10 := Lib.hid hl10
              have HB10 := Lib.hid (Below.trans (below_from HB8.out hb9) hb10)
              obtain ⟨A10, c10, rfl⟩ := own_len ho10
              clear hl10 hb10 ho10
              go_wp2_with fail
              go_roundw
              case rel => exact ⟨_, xs, by go_num, by omega, HL10.out, HB10.out, stC_rel HST8.out (by omega), fun y hy => HX8.out y (by simp [hy])⟩
              case measure => simp [intOf]
        · obtain ⟨m, hwl⟩ : ∃ m, ws.length = m + 1 := ⟨ws.length - 1, by omega⟩
          rw [hwl]
          have dn : decide ((0 : Int) < (m : Int) + 1) = true := decide_eq_true (by omega)
          have dz : ((m : Int) + 1 == 0) = false := by simp; omega
          go_wp2_with fail
          refine (release_any w1.heap.size (-1) q _ (base := w.heap.size) (by have := stA_len HST.out; omega) HLR.out HBR.out.size).mono ?_
          rintro e w3 ⟨v3, rfl, ho3, hl3, hb3, _⟩
          obtain ⟨hst3, he3⟩ := stA_rel HST.out
          have htold := stA_told HST.out
          rw [he3]
          obtain ⟨A3, c3, rfl⟩ := own_len ho3
          rw [htold, hwl]
          obtain ⟨q3, hq3⟩ : ∃ q3, q3 = (relQ q (-1)).1 := ⟨_, rfl⟩
          rw [← hq3] at hl3 hst3
          have HL3 := Lib.hid hl3
          have HB3 := Lib.hid (HBR.out.trans hb3)
          have HST3 := Lib.hid hst3
          clear hl3 hb3 ho3 hst3 he3 htold hq3
          go_wp2_with fail
          have hb4 : Below w.heap.size w (w3.alloc (.cells #[.string tX] 9)) := HB3.out.alloc HB3.out.size _
          obtain ⟨he5, hh5, hn5⟩ := stC_ask HST3.out HWS.out (by omega)
          refine (ask_any w1.heap.size (-1) (some ⟨w3.heap.size, 0, none⟩) 1 [tX] q3 (w3.alloc (.cells #[.string tX] 9)) (base := w.heap.size) (by have := stC_len HST3.out; omega) (HL3.out.below (below_one _ _)) hb4.size (by simp) (lit1_row w3 tX) smallX (HG.out.below hb4)).mono ?_
          rintro e w5 ⟨er, v5, rfl, hve, hl5, hb5, _⟩
          rw [he5] at hve
          obtain rfl : er = .nilIface := hve
          rw [hh5, hwl]
          obtain ⟨q5, hq5⟩ : ∃ q5, q5 = askNext q3 (-1) [tX] v5 := ⟨_, rfl⟩
          have hst5 := hn5 v5
          rw [← hq5] at hl5 hst5
          have HL5 := Lib.hid hl5
          have HB5 := Lib.hid (hb4.trans hb5)
          have HST5 := Lib.hid hst5
          clear hl5 hb4 hb5 hst5 he5 hh5 hn5 hq5
          go_wp2_with fail
          refine (has_any w1.heap.size (-2) q5 _ (by have := stC_len HST5.out; simp at this; omega) HL5.out).mono ?_
          rw [stC_two HST5.out]
          rintro e w6' ⟨rfl, hb6⟩
          have HL7 := Lib.hid (HL5.out.below hb6)
          have HB7 := Lib.hid (below_from HB5.out hb6)
          clear hb6 HL5 HB5
          go_wp2_with fail
          go_loopw [4] (fun nn wr => ∃ (q : List LRow) (xs : List Int), nn = .int .i64 xs.length ∧ xs.length ≤ 20 ∧ LocksAt wr w.heap.size w1.heap.size q ∧ Below w.heap.size w wr ∧ StC q (xs ++ [-1]) ∧ ∀ x ∈ xs, 0 ≤ x) (fun nn _ => (intOf nn).toNat)
          case atStart => exact ⟨q5, ws, by rw [hwl]; try rfl, by omega, HL7.out, HB7.out, HST5.out, HWS.out⟩
          case round =>
            obtain ⟨q8, xs, rfl, hx20, hl8, hb8, hst8, hx8⟩ := hrel
            have HL8 := Lib.hid hl8
            have HB8 := Lib.hid hb8
            have HST8 := Lib.hid hst8
            have HX8 := Lib.hid hx8
            have hlen8 := stC_len hst8
            simp only [List.length_append, List.length_singleton] at hlen8
            clear hl8 hb8 hst8 hx8
            cases xs with
            | nil =>
              simp only [List.length_nil] at *
              go_wp2_with fail
              refine (has_any w1.heap.size (-1) q8 _ (by omega) HL8.out).mono ?_
              rw [stC_end HST8.out]
              rintro e w9 ⟨rfl, hb9⟩
              go_wp2_with fail
              refine (has_any w1.heap.size (-2) q8 _ (by omega) (HL8.out.below hb9)).mono ?_
              rw [stC_two HST8.out]
              rintro e w10 ⟨rfl, hb10⟩
              go_wp2_with fail
              refine (len_any w1.heap.size q8 _ ((HL8.out.below hb9).below hb10)).mono ?_
              rw [hlen8]
              rintro e w11 ⟨rfl, rfl⟩
              go_wp2_with fail
              go_ret
              exact ⟨rfl, below_from (below_from HB8.out hb9) hb10⟩
            | cons x xs =>
              have hx0 := HX8.out x (by simp)
              have d1 : decide ((0 : Int) < ((xs.length + 1 : Nat) : Int)) = true := decide_eq_true (by omega)
              have d2 : (x == -1) = false := by simp; omega
              simp only [List.length_cons] at hlen8 hx20 ⊢
              go_wp2_with fail
              refine (holder_any w1.heap.size tX q8 _ (by omega) HL8.out).mono ?_
              rw [stC_hold HST8.out]
              rintro e w9 ⟨rfl, hb9⟩
              go_wp2_with fail
              refine (release_any w1.heap.size x q8 _ (base := w.heap.size) (by omega) (HL8.out.below hb9) (below_from HB8.out hb9).size).mono ?_
              rintro e w10 ⟨v10, rfl, ho10, hl10, hb10, _⟩
              have HL10 := Lib.hid hl10
              have HB10 := Lib.hid (Below.trans (below_from HB8.out hb9) hb10)
              obtain ⟨A10, c10, rfl⟩ := own_len ho10
              clear hl10 hb10 ho10
              go_wp2_with fail
              go_roundw
              case rel => exact ⟨_, xs, by go_num, by omega, HL10.out, HB10.out, stC_rel HST8.out (by omega), fun y hy => HX8.out y (by simp [hy])⟩
              case measure => simp [intOf]
  · have hl2 : decide ((20 : Int) < (l.length : Int)) = true := by simp; omega
    go_enter Tryd.func5, Tryd.ntmps5
    go_wp2_with fail
    refine HK.out.mono ?_
    rintro e w1 ⟨rfl, hb1⟩
    go_wp2
    go_ret
    exact ⟨rfl, hb1⟩
end Go.Proofs.YtkhnfepnapgfaaaDoor
