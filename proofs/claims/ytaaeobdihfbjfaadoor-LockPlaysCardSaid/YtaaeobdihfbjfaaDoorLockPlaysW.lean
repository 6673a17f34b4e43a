/-
  The law LockPlays, walked.
-/
import Derived.Test.YtaaeobdihfbjfaaDoorLockLike
import Derived.Test.YtaaeobdihfbjfaaDoorLockFits
set_option linter.unusedVariables false
set_option linter.unusedSimpArgs false
namespace Go.Proofs.YtaaeobdihfbjfaaDoor
open Go.RowKit
open Go.Proofs.YtaaeobdihfbjfaaDoorW.PrintWords (Kd ReadsRow)
theorem ints_cell {w : World} {base : Nat} {A : Option Addr} {c : Nat} {xs : List Int} (h : w.ownsRow base 3 1 (.slice A xs.length c) xs.length (intsV xs)) {k : Nat} (hk : k < xs.length) : ∃ b, A = some ⟨b, 0, none⟩ ∧ w.cell? ⟨b, k, none⟩ = some (.int .i64 xs[k]) := by
  obtain ⟨g, cap, e, _, _⟩ := h.form (by omega)
  injection e with e1 e2 e3
  subst e1
  refine ⟨g, rfl, ?_⟩
  have := h.cellAt k (by omega)
  rw [this]
  simp [intsV, hk]
theorem own_len1 {w : World} {base n : Nat} {e : TypeId} {v : Value} {xs : List Value} (h : w.ownsRow base e 1 v n xs) : ∃ A c, v = .slice A n c := by
  rcases h.2 with ⟨rfl, rfl⟩ | ⟨g, cap, cur, rfl, _⟩
  · exact ⟨_, _, rfl⟩
  · exact ⟨_, _, rfl⟩
theorem op_len {w : World} {A : Option Addr} {l : List OpD} (h : Kd.C kOp w A l.length l) : ∀ o ∈ l, o.2.2.length ≤ 9223372036854775807 := fun o ho => by
  obtain ⟨k, hk, rfl⟩ := List.getElem_of_mem ho
  obtain ⟨ad, e, hc⟩ := h.2.2 (by omega)
  obtain ⟨c, _, ⟨c0, c1, rfl, h0, ⟨c2, c3, rfl, h2, ⟨A', c', rfl, hle, hr⟩⟩⟩, hcell⟩ := hc k _ (List.getElem?_eq_getElem hk)
  exact hr.2.1
theorem fits_yes {l : List OpD} (h : fitsB l = true) : l.length ≤ 90 ∧ ∀ o ∈ l, o.2.2.length ≤ 20 ∧ ∀ s ∈ o.2.2, s.size ≤ 100 := by
  simp only [fitsB, Bool.and_eq_true, decide_eq_true_eq, List.all_eq_true, fitB] at h
  exact ⟨h.1, fun o ho => ⟨(h.2 o ho).1, (h.2 o ho).2⟩⟩
theorem rrelQ_len (r : List RRow) (who : Int) : (rrelQ r who).2.1.length ≤ r.length := by
  unfold rrelQ
  split
  · simp
  · exact Nat.le_trans (told_len _ _ _) (Nat.sub_le _ _)
theorem same_start : Same [] [] := ⟨fun i hi => by simp at hi, by simp [Once], rfl, by simp⟩
theorem asks_none (w : World) (base : Nat) : AsksAt w base (.slice none 0 0) [] := ⟨⟨rfl, .inl ⟨rfl, rfl⟩⟩, fun a ha => by cases ha⟩
set_option maxRecDepth 100000 in
set_option maxHeartbeats 8000000 in
theorem lockPlays_walk (v : Value) (l : List OpD) (p : ByteArray) (w : World) (hv : SliceArg kOp w v l) (hgood : ∀ o ∈ l, (Lit.int .i64 o.1).wf = true ∧ (Lit.int .i64 o.2.1).wf = true ∧ ∀ s ∈ o.2.2, s.size ≤ maxLen) (hp : p.size ≤ 140737488351232) (hg : Env w) :
    Calls Tryd.prog 5 #[v, .string p] w fun e w' => e = .returned (.bool true) ∧ Below w.heap.size w w' := by
  obtain ⟨A, c, rfl, hlc, hcm, hC⟩ := hv
  have hmx : (maxLen : Nat) = 9223372036854775807 := rfl
  have hor := opRow_of hC
  have HK := Lib.hid (locks_any w hg.ml)
  have HG := Lib.hid hg
  have HOR := Lib.hid hor
  have HFT := Lib.hid (fun W (hb : Below w.heap.size w W) => fits_any A c l W (hor.below hb) (by omega) (fun o ho => ⟨op_len hC o ho, fun s hs => (hgood o ho).2.2 s hs⟩))
  clear hC hgood hg hor
  cases hft : fitsB l with
  | false =>
    have HF := Lib.hid hft
    clear hft
    go_enter Tryd.func5, Tryd.ntmps5
    go_wp2_with fail
    refine HK.out.mono ?_
    rintro e w1 ⟨rfl, hb1⟩
    go_wp2_with fail
    refine (HFT.out _ hb1).mono ?_
    rw [HF.out]
    rintro e w2 ⟨rfl, hb2⟩
    go_wp2_with fail
    go_ret
    exact ⟨rfl, below_from hb1 hb2⟩
  | true =>
    have HF := Lib.hid hft
    obtain ⟨hl90, hops⟩ := fits_yes hft
    have HOPS := Lib.hid hops
    clear hft hops
    by_cases hp100 : p.size ≤ 100
    · have d1 : decide ((100 : Int) < (p.size : Int)) = false := decide_eq_false (by omega)
      go_enter Tryd.func5, Tryd.ntmps5
      go_wp2_with fail
      refine HK.out.mono ?_
      rintro e w1 ⟨rfl, hb1⟩
      go_wp2_with fail
      refine (HFT.out _ hb1).mono ?_
      rw [HF.out]
      rintro e w2 ⟨rfl, hb2⟩
      go_wp2_with fail
      have hb12 := below_from hb1 hb2
      refine (new_any w2 w.heap.size hb12.size).mono ?_
      rintro e w3 ⟨rfl, hb3, hl3⟩
      have HL3 := Lib.hid hl3
      have HB3 := Lib.hid (below_from hb12 hb3)
      clear hl3 hb3 hb12 hb1 hb2
      go_wp2_with fail
      go_loopw [6, 32] (fun vv i wr => ∃ (k : Nat) (q : List LRow) (r : List RRow), k ≤ l.length ∧ i = .int .i64 k ∧ Below w.heap.size w wr ∧ LocksAt wr w.heap.size w2.heap.size q ∧ AsksAt wr w.heap.size vv r ∧ Same q r) (fun _ i _ => l.length - (intOf i).toNat)
      case atStart => exact ⟨0, [], [], by omega, rfl, HB3.out, HL3.out, asks_none _ _, same_start⟩
      case round =>
        obtain ⟨k, q, r, hk, rfl, hbr, hlr, har, hsr⟩ := hrel
        have HBR := Lib.hid hbr
        have HLR := Lib.hid hlr
        have HAR := Lib.hid har
        have hq64 := hsr.small
        have hlen := hsr.len
        have hr64 : r.length ≤ 64 := by omega
        have HS := Lib.hid hsr
        obtain ⟨AV, cV, rfl, _, _⟩ := har.form
        clear hlr har hsr hlen
        by_cases hlt : k < l.length
        · obtain ⟨bb, off, rfl, hrow⟩ := HOR.out (by omega)
          obtain ⟨A1, c1, x1, x2, x3, x4, x5⟩ := hrow k hlt
          obtain ⟨o, ho⟩ : ∃ o, o = l[k] := ⟨_, rfl⟩
          have hpo := HOPS.out o (ho ▸ List.getElem_mem hlt)
          rw [← ho] at x1 x2 x3 x4 x5
          obtain ⟨kd, who, ps⟩ := o
          replace x1 := (hbr.cell (lt_of_cell x1)).trans x1
          replace x2 := (hbr.cell (lt_of_cell x2)).trans x2
          replace x3 := (hbr.cell (lt_of_cell x3)).trans x3
          have HT := Lib.hid x5
          have hpl : ps.length ≤ 1000 := by have := hpo.1; simp only at this; omega
          have HZ : Hid (∀ s ∈ ps, s.size ≤ 140737488351232) := Lib.hid (fun s hs => by have := hpo.2 s hs; omega)
          simp only at x1 x2 x3
          clear hrow x5 ho hpo hbr
          cases hkd : (kd == 0) with
          | true =>
            have hbo := below_one wr (.cells #[.int .i64 kd, .int .i64 who, .slice A1 ps.length c1] 31)
            have HAO := Lib.hid (HAR.out.below hbo)
            have HLO := Lib.hid (HLR.out.below hbo)
            have HBO := Lib.hid (below_from HBR.out hbo)
            have y1 : (wr.alloc (.cells #[.int .i64 kd, .int .i64 who, .slice A1 ps.length c1] 31)).cell? ⟨wr.heap.size, 1, none⟩ = some (.int .i64 who) := by simp
            have y2 : (wr.alloc (.cells #[.int .i64 kd, .int .i64 who, .slice A1 ps.length c1] 31)).cell? ⟨wr.heap.size, 2, none⟩ = some (.slice A1 ps.length c1) := by simp
            have HERR := Lib.hid (HS.out.err who ps)
            by_cases hz : putErr r who ps = 0
            · have HZR := Lib.hid hz
              clear hz hbo
              go_wp2_with fail
              refine (rput_any _ who A1 c1 ps r _ (by omega) HAO.out HBO.out.size hpl (HT.out.below HBO.out) HZ.out).mono ?_
              rintro e w4 ⟨vv, v4, rfl, har4, hb4⟩
              rw [HZR.out]
              replace y1 := cell_below hb4 y1
              replace y2 := cell_below hb4 y2
              obtain ⟨hhas, hq2l⟩ := HS.out.askHas_yes vv HZR.out
              obtain ⟨q2, hq2⟩ : ∃ q2, q2 = putNext r who ps vv := ⟨_, rfl⟩
              rw [← hq2] at har4 hhas hq2l
              obtain ⟨A4, c4, rfl, _, _⟩ := har4.form
              have HA4 := Lib.hid har4
              have HQ2 := Lib.hid hq2
              have HHAS := Lib.hid hhas
              have HB4 := Lib.hid (below_from HBO.out hb4)
              have HL4 := Lib.hid (HLO.out.below hb4)
              rw [hq2l]
              have HQ2L := Lib.hid hq2l
              clear har4 hhas hb4 hq2 hq2l
              go_wp2_with fail
              refine (ask_any w2.heap.size who A1 c1 ps q w4 (base := w.heap.size) (by omega) HL4.out HB4.out.size hpl (HT.out.below HB4.out) HZ.out (HG.out.ml.below HB4.out)).mono ?_
              rintro e w5 ⟨er, v5, rfl, hve, hl5, hb5, hf5⟩
              have HVE := Lib.hid hve
              have HL5 := Lib.hid hl5
              have HB5 := Lib.hid (HB4.out.trans hb5)
              have HA5 := Lib.hid (HA4.out.frame hf5)
              rw [HHAS.out, HQ2L.out]
              obtain ⟨bq, hbq⟩ : ∃ bq, bq = canS (sigR q2) (r.length + 1 - 1) := ⟨_, rfl⟩
              rw [← hbq]
              have HBQ := Lib.hid hbq
              clear hve hl5 hb5 hf5 hbq y1 y2
              go_wp2_with fail
              refine (number er _ w5 HVE.out (HG.out.below HB5.out)).mono ?_
              rw [HERR.out, HZR.out]
              rintro e w6 ⟨rfl, hb6⟩
              go_wp2_with fail
              refine (rhas_any _ (r.length + 1 - 1) q2 w6 (by rw [HQ2L.out]; omega) (by rw [HQ2L.out]; omega) (HQ2L.out ▸ HA5.out.below hb6)).mono ?_
              rw [← HBQ.out]
              rintro e w7 ⟨rfl, hb7⟩
              go_wp2_with fail
              have hb67 := below_from hb6 hb7
              have HSN : Hid (Same (askNext q who ps v5) q2) := Lib.hid (by rw [HQ2.out]; exact HS.out.put who ps v5 vv)
              refine (like_any w2.heap.size _ p _ q2 w7 HSN.out (HL5.out.below hb67) (HQ2L.out ▸ HA5.out.below hb67)).mono ?_
              rintro e w8 ⟨rfl, hb8⟩
              go_wp2_with fail
              go_roundw
              case rel => exact ⟨k + 1, _, q2, by omega, by go_num, below_from (below_from HB5.out hb67) hb8, (HL5.out.below hb67).below hb8, HQ2L.out ▸ (HA5.out.below hb67).below hb8, HSN.out⟩
              case measure => simp [intOf]; omega
            · have HZR := Lib.hid hz
              obtain ⟨n, hn⟩ : ∃ n, n = putErr r who ps := ⟨_, rfl⟩
              have hn0 : (n == 0) = false := by rw [hn]; simpa using hz
              have hnz : ¬ n = 0 := by rw [hn]; exact hz
              have HNE := Lib.hid hn
              clear hz hbo hn
              go_wp2_with fail
              refine (rput_any _ who A1 c1 ps r _ (by omega) HAO.out HBO.out.size hpl (HT.out.below HBO.out) HZ.out).mono ?_
              rintro e w4 ⟨vv, v4, rfl, har4, hb4⟩
              rw [← HNE.out]
              replace y1 := cell_below hb4 y1
              replace y2 := cell_below hb4 y2
              have hnx : putNext r who ps vv = r := by rw [putNext, if_neg HZR.out]
              rw [hnx] at har4
              have HNX := Lib.hid hnx
              obtain ⟨A4, c4, rfl, _, _⟩ := har4.form
              have HA4 := Lib.hid har4
              have HB4 := Lib.hid (below_from HBO.out hb4)
              have HL4 := Lib.hid (HLO.out.below hb4)
              clear har4 hb4 hnx
              go_wp2_with fail
              refine (ask_any w2.heap.size who A1 c1 ps q w4 (base := w.heap.size) (by omega) HL4.out HB4.out.size hpl (HT.out.below HB4.out) HZ.out (HG.out.ml.below HB4.out)).mono ?_
              rintro e w5 ⟨er, v5, rfl, hve, hl5, hb5, hf5⟩
              have HVE := Lib.hid hve
              have HL5 := Lib.hid hl5
              have HB5 := Lib.hid (HB4.out.trans hb5)
              have HA5 := Lib.hid (HA4.out.frame hf5)
              rw [HS.out.askHas_no HZR.out]
              clear hve hl5 hb5 hf5 y1 y2
              go_wp2_with fail
              refine (number er _ w5 HVE.out (HG.out.below HB5.out)).mono ?_
              rw [HERR.out, ← HNE.out]
              rintro e w6 ⟨rfl, hb6⟩
              go_wp2_with fail
              all_goals first
                | (exfalso; omega)
                | skip
              refine (like_any w2.heap.size _ p _ r w6 (HNX.out ▸ HS.out.put who ps v5 vv) (HL5.out.below hb6) (HA5.out.below hb6)).mono ?_
              rintro e w7 ⟨rfl, hb7⟩
              go_wp2_with fail
              go_roundw
              case rel => exact ⟨k + 1, _, r, by omega, by go_num, below_from (below_from HB5.out hb6) hb7, (HL5.out.below hb6).below hb7, (HA5.out.below hb6).below hb7, HNX.out ▸ HS.out.put who ps v5 vv⟩
              case measure => simp [intOf]; omega
          | false =>
            have hbo := below_one wr (.cells #[.int .i64 kd, .int .i64 who, .slice A1 ps.length c1] 31)
            have HAO := Lib.hid (HAR.out.below hbo)
            have HLO := Lib.hid (HLR.out.below hbo)
            have HBO := Lib.hid (below_from HBR.out hbo)
            have y1 : (wr.alloc (.cells #[.int .i64 kd, .int .i64 who, .slice A1 ps.length c1] 31)).cell? ⟨wr.heap.size, 1, none⟩ = some (.int .i64 who) := by simp
            obtain ⟨hrs, hrt, hre⟩ := HS.out.rel1 who
            have HRS := Lib.hid hrs
            have hq4 := hrs.small
            obtain ⟨xs, hxs⟩ : ∃ xs, xs = (rrelQ r who).2.1 := ⟨_, rfl⟩
            obtain ⟨n, hn⟩ : ∃ n, n = (rrelQ r who).2.2 := ⟨_, rfl⟩
            obtain ⟨r4, hr4⟩ : ∃ r4, r4 = (rrelQ r who).1 := ⟨_, rfl⟩
            have hxl : xs.length ≤ 64 := by have := rrelQ_len r who; rw [hxs]; omega
            have HXS := Lib.hid hxs
            have HNN := Lib.hid hn
            have HR4 := Lib.hid hr4
            have HRT := Lib.hid (hrt.trans hxs.symm)
            have HRE := Lib.hid (hre.trans hn.symm)
            clear hbo hrs hrt hre hxs hn hr4
            go_wp2_with fail
            refine (rrel_any _ who r _ (by omega) HAO.out HBO.out.size).mono ?_
            intro e w4 hpost
            obtain ⟨v4, o4, rfl, har4, ho4, hb4⟩ := rrel_one hpost
            rw [← HXS.out] at ho4
            rw [← HR4.out] at har4
            rw [← HNN.out]
            replace y1 := cell_below hb4 y1
            obtain ⟨A4, c4, rfl, _, _⟩ := har4.form
            obtain ⟨A6, c6, rfl⟩ := own_len1 ho4
            have HA4 := Lib.hid har4
            have HO4 := Lib.hid ho4
            have HB4 := Lib.hid (below_from HBO.out hb4)
            have HL4 := Lib.hid (HLO.out.below hb4)
            clear har4 hb4 ho4 hpost
            go_wp2_with fail
            refine (release_any w2.heap.size who q w4 (base := w.heap.size) hq64 HL4.out HB4.out.size).mono ?_
            rintro e w5 ⟨v5, rfl, ho5, hl5, hb5, hf5⟩
            rw [HRT.out] at ho5
            rw [HRE.out]
            obtain ⟨A5, c5, rfl⟩ := own_len1 ho5
            have HO5 := Lib.hid ho5
            have HL5 := Lib.hid hl5
            have HB5 := Lib.hid (HB4.out.trans hb5)
            have HA5 := Lib.hid (HA4.out.frame hf5)
            have HO6 := Lib.hid (hf5.own HO4.out (by decide))
            clear ho5 hl5 hb5 hf5 y1
            go_wp2_with fail
            go_loopw [110] (fun i wq => ∃ m : Nat, m ≤ xs.length ∧ i = .int .i64 m ∧ Below w5.heap.size w5 wq) (fun i _ => xs.length - (intOf i).toNat)
            case atStart => exact ⟨0, by omega, rfl, Below.refl _ _⟩
            case round =>
              obtain ⟨m, hm, rfl, hbq⟩ := hrel
              by_cases hml : m < xs.length
              · obtain ⟨b5, rfl, z1⟩ := ints_cell HO5.out hml
                obtain ⟨b6, rfl, z2⟩ := ints_cell HO6.out hml
                obtain ⟨x, hx⟩ : ∃ x, x = xs[m] := ⟨_, rfl⟩
                rw [← hx] at z1 z2
                clear hx
                replace z1 := cell_below hbq z1
                replace z2 := cell_below hbq z2
                go_wp2_with fail
                go_quiet (fail)
                go_wp2_with fail
                go_roundw
                case rel => exact ⟨m + 1, by omega, by go_num, below_drewN hbq _⟩
                case measure => simp [intOf]; omega
              · obtain rfl : m = xs.length := by omega
                have HSN : Hid (Same (relQ q who).1 r4) := Lib.hid (by rw [HR4.out]; exact HRS.out)
                go_wp2_with fail
                refine (like_any w2.heap.size _ p _ r4 _ HSN.out (HL5.out.below hbq) (HA5.out.below hbq)).mono ?_
                rintro e w8 ⟨rfl, hb8⟩
                go_wp2_with fail
                have hb9 := below_from hbq hb8
                go_roundw
                case rel => exact ⟨k + 1, _, r4, by omega, by go_num, below_from HB5.out hb9, HL5.out.below hb9, HA5.out.below hb9, HSN.out⟩
                case measure => simp [intOf]; omega
        · obtain rfl : k = l.length := by omega
          go_wp2
          go_ret
          exact ⟨rfl, HBR.out⟩
    · have d1 : decide ((100 : Int) < (p.size : Int)) = true := decide_eq_true (by omega)
      go_enter Tryd.func5, Tryd.ntmps5
      go_wp2_with fail
      refine HK.out.mono ?_
      rintro e w1 ⟨rfl, hb1⟩
      go_wp2_with fail
      refine (HFT.out _ hb1).mono ?_
      rw [HF.out]
      rintro e w2 ⟨rfl, hb2⟩
      go_wp2_with fail
      go_ret
      exact ⟨rfl, below_from hb1 hb2⟩
end Go.Proofs.YtaaeobdihfbjfaaDoor
