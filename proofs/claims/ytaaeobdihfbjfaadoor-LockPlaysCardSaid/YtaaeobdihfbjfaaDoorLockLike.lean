/-
  The law's 'like': everybody has theirs, or waits, as in the reference.
-/
import Derived.Test.YtaaeobdihfbjfaaDoorLockSame
set_option linter.unusedVariables false
set_option linter.unusedSimpArgs false
namespace Go.Proofs.YtaaeobdihfbjfaaDoor
open Go.RowKit
set_option maxRecDepth 100000 in
set_option maxHeartbeats 4000000 in
theorem like_any (g : Nat) (v : Value) (p : ByteArray) (q : List LRow) (r : List RRow) (w : World) {base : Nat} (hs : Same q r) (hl : LocksAt w base g q) (ha : AsksAt w base v r) :
    Calls Tryd.prog 27 #[.pointer (some ⟨g, 0, none⟩), v, .string p] w fun e w' => e = .returned (.bool true) ∧ Below w.heap.size w w' := by
  have HL := Lib.hid hl
  have HA := Lib.hid ha
  have hsm := hs.small
  have hlen := hs.len
  obtain ⟨A, c, rfl, hcap, hrows⟩ := ha.form
  have HRO := Lib.hid hrows
  have h64 : r.length ≤ 64 := by omega
  have HLEN := Lib.hid hlen
  clear hl ha hrows hlen
  cases hh : hasQ q (-77) with
  | false =>
    have HH := Lib.hid hh
    clear hh
    go_enter Tryd.func27, Tryd.ntmps27
    go_wp2_with fail
    refine (len_any g q _ HL.out).mono ?_
    rw [HLEN.out]
    rintro e w2 ⟨rfl, h2⟩
    replace h2 := h2.symm
    subst h2
    go_wp2_with fail
    refine (has_any g (-77) q _ (by omega) HL.out).mono ?_
    rw [HH.out]
    rintro e w3 ⟨rfl, hb3⟩
    have HB := Lib.hid hb3
    clear hb3
    go_wp2_with fail
    go_loopw [7, 8, 32] (fun h t i wr => ∃ (j : Nat) (a : Int) (b : Bool), j ≤ r.length ∧ h = .int .i64 a ∧ t = .bool b ∧ i = .int .i64 j ∧ Below w.heap.size w wr ∧ LikeSt r p j a b) (fun _ _ i _ => r.length - (intOf i).toNat)
    case atStart => exact ⟨0, 0, false, by omega, rfl, rfl, rfl, HB.out, likeSt_zero r p⟩
    case round =>
      obtain ⟨j, a, b, hj, rfl, rfl, rfl, hbj, hst⟩ := hrel
      have HBJ := Lib.hid hbj
      have HST := Lib.hid hst
      clear hst
      by_cases hlt : j < r.length
      · obtain ⟨bb, rfl, hcell⟩ := HRO.out (by omega)
        obtain ⟨x1, x2⟩ := hcell j hlt
        replace x1 := cell_below hbj x1
        replace x2 := cell_below hbj x2
        obtain ⟨A1, c1, e1, t1, z1, l1⟩ := (HA.out.below hbj).path hlt
        have hl16 := l1
        obtain ⟨n, hn⟩ : ∃ n, n = r[j].who := ⟨_, rfl⟩
        obtain ⟨ps, hps⟩ : ∃ ps, ps = r[j].paths := ⟨_, rfl⟩
        rw [e1] at x2
        rw [← hn] at x1
        rw [← hps] at x2 t1 z1 hl16
        have HN := Lib.hid hn
        have HPS := Lib.hid hps
        have HT1 := Lib.hid t1
        have hgd : Hid (r.getD j zR = r[j]) := Lib.hid (by simp [List.getD, hlt])
        have HHR : Hid (hitR r p j = (canS (sigR r) j && ps.any fun s => s.toList == p.toList)) := Lib.hid (by rw [hitR, hgd.out, ← HPS.out])
        clear hcell e1 t1 z1 hn hps hbj l1
        have hbj1 := below_one wr (.cells #[.int .i64 n, .slice A1 ps.length c1] 48)
        have HB1 := Lib.hid hbj1
        have y1 := cell_below hbj1 x1
        have g0 : (wr.alloc (.cells #[.int .i64 n, .slice A1 ps.length c1] 48)).cell? ⟨wr.heap.size, 0, none⟩ = some (.int .i64 n) := by simp
        have g1 : (wr.alloc (.cells #[.int .i64 n, .slice A1 ps.length c1] 48)).cell? ⟨wr.heap.size, 1, none⟩ = some (.slice A1 ps.length c1) := by simp
        have HHN : Hid (hasQ q n = canS (sigR r) j) := Lib.hid (by rw [HN.out]; exact hs.has hlt)
        have HWN : Hid (waitsQ q n = !canS (sigR r) j) := Lib.hid (by rw [HN.out]; exact hs.waits hlt)
        cases hc : canS (sigR r) j with
        | false =>
          have HH : Hid (hitR r p j = false) := Lib.hid (by rw [HHR.out, hc]; rfl)
          have HC := Lib.hid hc
          clear hc hbj1
          go_wp2_with fail
          refine (rhas_any _ j r _ (by omega) hlt (HA.out.below (below_from HBJ.out HB1.out))).mono ?_
          rw [HC.out]
          rintro e w5 ⟨rfl, hb5⟩
          replace g0 := cell_below hb5 g0
          replace g1 := cell_below hb5 g1
          have HB5 := Lib.hid (below_from HB1.out hb5)
          clear hb5
          go_wp2_with fail
          refine (has_any g n q _ (by omega) (HL.out.below (below_from HBJ.out HB5.out))).mono ?_
          rw [HHN.out, HC.out]
          rintro e w6 ⟨rfl, hb6⟩
          replace g0 := cell_below hb6 g0
          replace g1 := cell_below hb6 g1
          have HB6 := Lib.hid (below_from HB5.out hb6)
          clear hb6
          go_wp2_with fail
          refine (waits_any g n q _ (by omega) (HL.out.below (below_from HBJ.out HB6.out))).mono ?_
          rw [HWN.out, HC.out]
          rintro e w7 ⟨rfl, hb7⟩
          replace g0 := cell_below hb7 g0
          replace g1 := cell_below hb7 g1
          have HB7 := Lib.hid (below_from HB6.out hb7)
          clear hb7
          go_wp2_with fail
          clear g1
          go_loop [7, 8, 57] (fun h t i => ∃ m : Nat, m ≤ ps.length ∧ i = .int .i64 m ∧ h = .int .i64 a ∧ t = .bool b) (fun _ _ i => ps.length - (intOf i).toNat)
          case atStart => exact ⟨0, by omega, rfl, rfl, rfl⟩
          case round =>
            obtain ⟨m, hm, rfl, rfl, rfl⟩ := hrel
            by_cases hml : m < ps.length
            · obtain ⟨ad, rfl, hT⟩ := (HT1.out.below HB7.out) (by omega)
              have hcs := hT m hml
              obtain ⟨s, hs⟩ : ∃ s, s = ps[m] := ⟨_, rfl⟩
              rw [← hs] at hcs
              clear hT hs
              go_wp2_with fail
              go_round
              case rel => exact ⟨m + 1, by omega, by go_num, rfl, rfl⟩
              case measure => simp [intOf]; omega
            · obtain rfl : m = ps.length := by omega
              go_wp2_with fail
              go_roundw
              case rel => exact ⟨j + 1, a, b, by omega, rfl, rfl, by go_num, below_from HBJ.out HB7.out, likeSt_no HST.out HH.out⟩
              case measure => simp [intOf]; omega
        | true =>
          have HC := Lib.hid hc
          clear hc hbj1
          go_wp2_with fail
          refine (rhas_any _ j r _ (by omega) hlt (HA.out.below (below_from HBJ.out HB1.out))).mono ?_
          rw [HC.out]
          rintro e w5 ⟨rfl, hb5⟩
          replace g0 := cell_below hb5 g0
          replace g1 := cell_below hb5 g1
          have HB5 := Lib.hid (below_from HB1.out hb5)
          clear hb5
          go_wp2_with fail
          refine (has_any g n q _ (by omega) (HL.out.below (below_from HBJ.out HB5.out))).mono ?_
          rw [HHN.out, HC.out]
          rintro e w6 ⟨rfl, hb6⟩
          replace g0 := cell_below hb6 g0
          replace g1 := cell_below hb6 g1
          have HB6 := Lib.hid (below_from HB5.out hb6)
          clear hb6
          go_wp2_with fail
          refine (waits_any g n q _ (by omega) (HL.out.below (below_from HBJ.out HB6.out))).mono ?_
          rw [HWN.out, HC.out]
          rintro e w7 ⟨rfl, hb7⟩
          replace g0 := cell_below hb7 g0
          replace g1 := cell_below hb7 g1
          have HB7 := Lib.hid (below_from HB6.out hb7)
          clear hb7
          go_wp2_with fail
          clear g1
          go_loop [7, 8, 57] (fun h t i => ∃ m : Nat, m ≤ ps.length ∧ i = .int .i64 m ∧ ((h = .int .i64 a ∧ t = .bool b ∧ ∀ m' (hm : m' < ps.length), m' < m → (ps[m'].toList == p.toList) = false) ∨ (h = .int .i64 n ∧ t = .bool true ∧ hitR r p j = true))) (fun _ _ i => ps.length - (intOf i).toNat)
          case atStart => exact ⟨0, by omega, rfl, .inl ⟨rfl, rfl, fun m' hm h => by omega⟩⟩
          case round =>
            obtain ⟨m, hm, rfl, hst⟩ := hrel
            have HS2 := Lib.hid hst
            clear hst
            by_cases hml : m < ps.length
            · obtain ⟨ad, rfl, hT⟩ := (HT1.out.below HB7.out) (by omega)
              have hcs := hT m hml
              obtain ⟨s, hs⟩ : ∃ s, s = ps[m] := ⟨_, rfl⟩
              rw [← hs] at hcs
              have HSE := Lib.hid hs
              clear hT hs
              cases he : (s.toList == p.toList) with
              | true =>
                have HE := Lib.hid he
                go_wp2_with fail
                go_round
                case rel => exact ⟨m + 1, by omega, by go_num, .inr ⟨rfl, rfl, by rw [HHR.out, HC.out, Bool.true_and]; exact List.any_eq_true.2 ⟨s, HSE.out ▸ List.getElem_mem hml, HE.out⟩⟩⟩
                case measure => simp [intOf]; omega
              | false =>
                have HE := Lib.hid he
                go_wp2_with fail
                go_round
                case rel =>
                  refine ⟨m + 1, by omega, by go_num, ?_⟩
                  rcases HS2.out with ⟨h1, h2, h3⟩ | h1
                  · refine .inl ⟨h1, h2, fun m' hm' hlt' => ?_⟩
                    by_cases e : m' = m
                    · subst e; rw [← HSE.out]; exact HE.out
                    · exact h3 m' hm' (by omega)
                  · exact .inr h1
                case measure => simp [intOf]; omega
            · obtain rfl : m = ps.length := by omega
              rcases HS2.out with ⟨rfl, rfl, h3⟩ | ⟨rfl, rfl, h3⟩
              · have HH : Hid (hitR r p j = false) := Lib.hid (by
                  rw [HHR.out, HC.out, Bool.true_and, List.any_eq_false]
                  intro s hs
                  obtain ⟨m', hm', rfl⟩ := List.getElem_of_mem hs
                  rw [h3 m' hm' hm']
                  simp)
                clear h3
                go_wp2_with fail
                go_roundw
                case rel => exact ⟨j + 1, a, b, by omega, rfl, rfl, by go_num, below_from HBJ.out HB7.out, likeSt_no HST.out HH.out⟩
                case measure => simp [intOf]; omega
              · have HH := Lib.hid h3
                clear h3
                go_wp2_with fail
                go_roundw
                case rel => exact ⟨j + 1, n, true, by omega, rfl, rfl, by go_num, below_from HBJ.out HB7.out, by rw [HN.out, ← hgd.out]; exact likeSt_yes HH.out⟩
                case measure => simp [intOf]; omega
      · obtain rfl : j = r.length := by omega
        have HHO := Lib.hid (hs.holder HST.out)
        go_wp2_with fail
        refine (holder_any g p q _ (by omega) (HL.out.below HBJ.out)).mono ?_
        rw [HHO.out]
        rintro e w9 ⟨rfl, hb9⟩
        go_wp2_with fail
        go_ret
        exact ⟨rfl, below_from HBJ.out hb9⟩
  | true =>
    obtain ⟨m0, hm0⟩ : ∃ m0 : Nat, findR r (-77) = m0 := by
      rcases findR_cases r (-77) with h | ⟨k, _, h⟩
      · exfalso
        rw [hasQ, hs.find, h] at hh
        simp at hh
      · exact ⟨k, h⟩
    have d0 : decide ((m0 : Int) < 0) = false := decide_eq_false (by omega)
    have HM0 := Lib.hid hm0
    have HH := Lib.hid hh
    clear hh hm0
    go_enter Tryd.func27, Tryd.ntmps27
    go_wp2_with fail
    refine (len_any g q _ HL.out).mono ?_
    rw [HLEN.out]
    rintro e w2 ⟨rfl, h2⟩
    replace h2 := h2.symm
    subst h2
    go_wp2_with fail
    refine (has_any g (-77) q _ (by omega) HL.out).mono ?_
    rw [HH.out]
    rintro e w2 ⟨rfl, hb2⟩
    go_wp2_with fail
    refine (rfind_any _ (-77) r _ (by omega) (HA.out.below hb2)).mono ?_
    rw [HM0.out]
    rintro e w3 ⟨rfl, hb3⟩
    have HB := Lib.hid (below_from hb2 hb3)
    clear hb2 hb3
    go_wp2_with fail
    go_loopw [7, 8, 32] (fun h t i wr => ∃ (j : Nat) (a : Int) (b : Bool), j ≤ r.length ∧ h = .int .i64 a ∧ t = .bool b ∧ i = .int .i64 j ∧ Below w.heap.size w wr ∧ LikeSt r p j a b) (fun _ _ i _ => r.length - (intOf i).toNat)
    case atStart => exact ⟨0, 0, false, by omega, rfl, rfl, rfl, HB.out, likeSt_zero r p⟩
    case round =>
      obtain ⟨j, a, b, hj, rfl, rfl, rfl, hbj, hst⟩ := hrel
      have HBJ := Lib.hid hbj
      have HST := Lib.hid hst
      clear hst
      by_cases hlt : j < r.length
      · obtain ⟨bb, rfl, hcell⟩ := HRO.out (by omega)
        obtain ⟨x1, x2⟩ := hcell j hlt
        replace x1 := cell_below hbj x1
        replace x2 := cell_below hbj x2
        obtain ⟨A1, c1, e1, t1, z1, l1⟩ := (HA.out.below hbj).path hlt
        have hl16 := l1
        obtain ⟨n, hn⟩ : ∃ n, n = r[j].who := ⟨_, rfl⟩
        obtain ⟨ps, hps⟩ : ∃ ps, ps = r[j].paths := ⟨_, rfl⟩
        rw [e1] at x2
        rw [← hn] at x1
        rw [← hps] at x2 t1 z1 hl16
        have HN := Lib.hid hn
        have HPS := Lib.hid hps
        have HT1 := Lib.hid t1
        have hgd : Hid (r.getD j zR = r[j]) := Lib.hid (by simp [List.getD, hlt])
        have HHR : Hid (hitR r p j = (canS (sigR r) j && ps.any fun s => s.toList == p.toList)) := Lib.hid (by rw [hitR, hgd.out, ← HPS.out])
        clear hcell e1 t1 z1 hn hps hbj l1
        have hbj1 := below_one wr (.cells #[.int .i64 n, .slice A1 ps.length c1] 48)
        have HB1 := Lib.hid hbj1
        have y1 := cell_below hbj1 x1
        have g0 : (wr.alloc (.cells #[.int .i64 n, .slice A1 ps.length c1] 48)).cell? ⟨wr.heap.size, 0, none⟩ = some (.int .i64 n) := by simp
        have g1 : (wr.alloc (.cells #[.int .i64 n, .slice A1 ps.length c1] 48)).cell? ⟨wr.heap.size, 1, none⟩ = some (.slice A1 ps.length c1) := by simp
        have HHN : Hid (hasQ q n = canS (sigR r) j) := Lib.hid (by rw [HN.out]; exact hs.has hlt)
        have HWN : Hid (waitsQ q n = !canS (sigR r) j) := Lib.hid (by rw [HN.out]; exact hs.waits hlt)
        cases hc : canS (sigR r) j with
        | false =>
          have HH : Hid (hitR r p j = false) := Lib.hid (by rw [HHR.out, hc]; rfl)
          have HC := Lib.hid hc
          clear hc hbj1
          go_wp2_with fail
          refine (rhas_any _ j r _ (by omega) hlt (HA.out.below (below_from HBJ.out HB1.out))).mono ?_
          rw [HC.out]
          rintro e w5 ⟨rfl, hb5⟩
          replace g0 := cell_below hb5 g0
          replace g1 := cell_below hb5 g1
          have HB5 := Lib.hid (below_from HB1.out hb5)
          clear hb5
          go_wp2_with fail
          refine (has_any g n q _ (by omega) (HL.out.below (below_from HBJ.out HB5.out))).mono ?_
          rw [HHN.out, HC.out]
          rintro e w6 ⟨rfl, hb6⟩
          replace g0 := cell_below hb6 g0
          replace g1 := cell_below hb6 g1
          have HB6 := Lib.hid (below_from HB5.out hb6)
          clear hb6
          go_wp2_with fail
          refine (waits_any g n q _ (by omega) (HL.out.below (below_from HBJ.out HB6.out))).mono ?_
          rw [HWN.out, HC.out]
          rintro e w7 ⟨rfl, hb7⟩
          replace g0 := cell_below hb7 g0
          replace g1 := cell_below hb7 g1
          have HB7 := Lib.hid (below_from HB6.out hb7)
          clear hb7
          go_wp2_with fail
          clear g1
          go_loop [7, 8, 57] (fun h t i => ∃ m : Nat, m ≤ ps.length ∧ i = .int .i64 m ∧ h = .int .i64 a ∧ t = .bool b) (fun _ _ i => ps.length - (intOf i).toNat)
          case atStart => exact ⟨0, by omega, rfl, rfl, rfl⟩
          case round =>
            obtain ⟨m, hm, rfl, rfl, rfl⟩ := hrel
            by_cases hml : m < ps.length
            · obtain ⟨ad, rfl, hT⟩ := (HT1.out.below HB7.out) (by omega)
              have hcs := hT m hml
              obtain ⟨s, hs⟩ : ∃ s, s = ps[m] := ⟨_, rfl⟩
              rw [← hs] at hcs
              clear hT hs
              go_wp2_with fail
              go_round
              case rel => exact ⟨m + 1, by omega, by go_num, rfl, rfl⟩
              case measure => simp [intOf]; omega
            · obtain rfl : m = ps.length := by omega
              go_wp2_with fail
              go_roundw
              case rel => exact ⟨j + 1, a, b, by omega, rfl, rfl, by go_num, below_from HBJ.out HB7.out, likeSt_no HST.out HH.out⟩
              case measure => simp [intOf]; omega
        | true =>
          have HC := Lib.hid hc
          clear hc hbj1
          go_wp2_with fail
          refine (rhas_any _ j r _ (by omega) hlt (HA.out.below (below_from HBJ.out HB1.out))).mono ?_
          rw [HC.out]
          rintro e w5 ⟨rfl, hb5⟩
          replace g0 := cell_below hb5 g0
          replace g1 := cell_below hb5 g1
          have HB5 := Lib.hid (below_from HB1.out hb5)
          clear hb5
          go_wp2_with fail
          refine (has_any g n q _ (by omega) (HL.out.below (below_from HBJ.out HB5.out))).mono ?_
          rw [HHN.out, HC.out]
          rintro e w6 ⟨rfl, hb6⟩
          replace g0 := cell_below hb6 g0
          replace g1 := cell_below hb6 g1
          have HB6 := Lib.hid (below_from HB5.out hb6)
          clear hb6
          go_wp2_with fail
          refine (waits_any g n q _ (by omega) (HL.out.below (below_from HBJ.out HB6.out))).mono ?_
          rw [HWN.out, HC.out]
          rintro e w7 ⟨rfl, hb7⟩
          replace g0 := cell_below hb7 g0
          replace g1 := cell_below hb7 g1
          have HB7 := Lib.hid (below_from HB6.out hb7)
          clear hb7
          go_wp2_with fail
          clear g1
          go_loop [7, 8, 57] (fun h t i => ∃ m : Nat, m ≤ ps.length ∧ i = .int .i64 m ∧ ((h = .int .i64 a ∧ t = .bool b ∧ ∀ m' (hm : m' < ps.length), m' < m → (ps[m'].toList == p.toList) = false) ∨ (h = .int .i64 n ∧ t = .bool true ∧ hitR r p j = true))) (fun _ _ i => ps.length - (intOf i).toNat)
          case atStart => exact ⟨0, by omega, rfl, .inl ⟨rfl, rfl, fun m' hm h => by omega⟩⟩
          case round =>
            obtain ⟨m, hm, rfl, hst⟩ := hrel
            have HS2 := Lib.hid hst
            clear hst
            by_cases hml : m < ps.length
            · obtain ⟨ad, rfl, hT⟩ := (HT1.out.below HB7.out) (by omega)
              have hcs := hT m hml
              obtain ⟨s, hs⟩ : ∃ s, s = ps[m] := ⟨_, rfl⟩
              rw [← hs] at hcs
              have HSE := Lib.hid hs
              clear hT hs
              cases he : (s.toList == p.toList) with
              | true =>
                have HE := Lib.hid he
                go_wp2_with fail
                go_round
                case rel => exact ⟨m + 1, by omega, by go_num, .inr ⟨rfl, rfl, by rw [HHR.out, HC.out, Bool.true_and]; exact List.any_eq_true.2 ⟨s, HSE.out ▸ List.getElem_mem hml, HE.out⟩⟩⟩
                case measure => simp [intOf]; omega
              | false =>
                have HE := Lib.hid he
                go_wp2_with fail
                go_round
                case rel =>
                  refine ⟨m + 1, by omega, by go_num, ?_⟩
                  rcases HS2.out with ⟨h1, h2, h3⟩ | h1
                  · refine .inl ⟨h1, h2, fun m' hm' hlt' => ?_⟩
                    by_cases e : m' = m
                    · subst e; rw [← HSE.out]; exact HE.out
                    · exact h3 m' hm' (by omega)
                  · exact .inr h1
                case measure => simp [intOf]; omega
            · obtain rfl : m = ps.length := by omega
              rcases HS2.out with ⟨rfl, rfl, h3⟩ | ⟨rfl, rfl, h3⟩
              · have HH : Hid (hitR r p j = false) := Lib.hid (by
                  rw [HHR.out, HC.out, Bool.true_and, List.any_eq_false]
                  intro s hs
                  obtain ⟨m', hm', rfl⟩ := List.getElem_of_mem hs
                  rw [h3 m' hm' hm']
                  simp)
                clear h3
                go_wp2_with fail
                go_roundw
                case rel => exact ⟨j + 1, a, b, by omega, rfl, rfl, by go_num, below_from HBJ.out HB7.out, likeSt_no HST.out HH.out⟩
                case measure => simp [intOf]; omega
              · have HH := Lib.hid h3
                clear h3
                go_wp2_with fail
                go_roundw
                case rel => exact ⟨j + 1, n, true, by omega, rfl, rfl, by go_num, below_from HBJ.out HB7.out, by rw [HN.out, ← hgd.out]; exact likeSt_yes HH.out⟩
                case measure => simp [intOf]; omega
      · obtain rfl : j = r.length := by omega
        have HHO := Lib.hid (hs.holder HST.out)
        go_wp2_with fail
        refine (holder_any g p q _ (by omega) (HL.out.below HBJ.out)).mono ?_
        rw [HHO.out]
        rintro e w9 ⟨rfl, hb9⟩
        go_wp2_with fail
        go_ret
        exact ⟨rfl, below_from HBJ.out hb9⟩
end Go.Proofs.YtaaeobdihfbjfaaDoor
