/-
  The law ViewFull, walked.
-/
import Derived.Test.YtmamkegcnacbbaaDoorViewHead
import Derived.Test.YtmamkegcnacbbaaDoorTreeValid
import Derived.Outline
set_option linter.unusedVariables false
set_option linter.unusedSimpArgs false
namespace Go.Proofs.YtmamkegcnacbbaaDoor
open Go.RowKit Go.Maps Go.WideMaps Go.WideAt
open Go.Proofs.YtmamkegcnacbbaaDoorW.PrintWords (Kd ReadsRow)
theorem chk_none (now : Nat) (hn : now < 1048576) : chkT now [] [] = .nil := by
  unfold chkT
  rw [chkGo]
  have e : stayL [] now [] = [] := by
    have e1 : (listT now [] (now : Nat) ⟨#[]⟩).1 = [] := by
      rw [listT, if_neg (by omega)]
      simp [sortB]
    rw [stayL, e1]
    rfl
  exact endT_nil.2 ⟨by simp [e], by simp [e], by simp [e, sumL], by omega⟩
theorem forgot_none {now : Int} {K : List Int} {F' : List FileS} (h : Forgot now K [] F') : F' = [] := by
  unfold Forgot at h
  simpa using h
set_option maxRecDepth 100000 in
set_option maxHeartbeats 16000000 in
theorem viewFull_walk (n : Int) (vc : Value) (lc : List Int) (w : World) (hn : (Lit.int .i64 n).wf = true) (hvc : SliceArg (Kd.int .i64) w vc lc) (hgc : ∀ x ∈ lc, (Lit.int .i64 x).wf = true) (hg : EnvM w) :
    Calls Tryd.prog 12 #[.int .i64 n, vc] w fun e w' => e = .returned (.bool true) ∧ Below w.heap.size w w' := by
  obtain ⟨Ac, cc, rfl, hlc, hcm, hC⟩ := hvc
  have hmx : (maxLen : Nat) = 9223372036854775807 := rfl
  have HK := Lib.hid (looks_any w hg)
  have HG := Lib.hid hg
  have HR := Lib.hid (intRow_of hC)
  clear hC hgc hg
  go_enter Tryd.func12, Tryd.ntmps12
  go_wp2_with fail
  refine HK.out.mono ?_
  rintro e w1 ⟨rfl, hb1⟩
  have HB1 := Lib.hid hb1
  clear hb1
  by_cases hd1 : n < 0
  · go_wp2_with fail
    go_ret
    exact ⟨rfl, HB1.out⟩
  by_cases hd2 : 70 < n
  · go_wp2_with fail
    go_ret
    exact ⟨rfl, HB1.out⟩
  by_cases hd3 : (10 : Int) < lc.length
  · go_wp2_with fail
    go_ret
    exact ⟨rfl, HB1.out⟩
  · obtain ⟨N, rfl⟩ : ∃ N : Nat, n = N := ⟨n.toNat, by omega⟩
    have hN : N ≤ 70 := by omega
    have hl10 : lc.length ≤ 10 := by omega
    clear hd1 hd2 hd3
    go_wp2_with fail
    refine (new_store w1).mono ?_
    rintro e w2 ⟨s, g, b, pm, rfl, hs2, hb2⟩
    have HS2 := Lib.hid hs2
    have HB2 := Lib.hid (below_from HB1.out hb2)
    have hbs2 : w1.heap.size ≤ w2.heap.size := hb2.size
    have hw1 : w.heap.size ≤ w1.heap.size := HB1.out.size
    clear hs2 hb2
    go_wp2_with fail
    go_loopw [31] (fun i wr => ∃ (k now : Nat) (L : List Int), k ≤ N ∧ i = .int .i64 k ∧ L.length = min k 64 ∧ (∀ x ∈ L, 0 ≤ x ∧ x ≤ 1000) ∧ now ≤ 10 * k ∧ StoreAt wr w1.heap.size s g b pm now [] L ∧ Below w.heap.size w wr ∧ w1.heap.size ≤ wr.heap.size) (fun i _ => N - (intOf i).toNat)
    case atStart => exact ⟨0, 0, [], by omega, rfl, rfl, (fun x hx => by cases hx), by omega, HS2.out, HB2.out, hbs2⟩
    case round =>
      obtain ⟨k, now, L, hk, rfl, hL, hLx, hnow, hs3, hb3, hbs3⟩ := hrel
      have HLX := Lib.hid hLx
      obtain ⟨w3, rfl⟩ : ∃ W, W = wr := ⟨wr, rfl⟩
      have HS3 := Lib.hid hs3
      have HB3 := Lib.hid hb3
      have HL := Lib.hid hL
      clear hs3 hb3 hL hLx
      by_cases hkN : k < N
      · go_wp2_with fail
        go_loopw [36] (fun j wr => ∃ (q now' : Nat), q ≤ lc.length ∧ j = .int .i64 q ∧ now' ≤ now + q ∧ StoreAt wr w1.heap.size s g b pm now' [] L ∧ Below w.heap.size w wr ∧ w1.heap.size ≤ wr.heap.size) (fun j _ => lc.length - (intOf j).toNat)
        case atStart => exact ⟨0, now, by omega, rfl, by omega, HS3.out, HB3.out, hbs3⟩
        case round =>
          obtain ⟨q, now', hq, rfl, hnow', hs4, hb4, hbs4⟩ := hrel
          have HS4 := Lib.hid hs4
          have HB4 := Lib.hid hb4
          clear hs4 hb4
          by_cases hql : q < lc.length
          · obtain ⟨ad, rfl, hcell⟩ := (HR.out.below (HB4.out.mono (Nat.le_refl _))) (by omega)
            have x1 := hcell q hql
            clear hcell
            by_cases hck : (lc[q] == (k : Int)) = true
            · go_wp2_with fail
              refine (scommit_any s g b pm now' none 0 [] [] L wr (base := w1.heap.size) (by rw [HL.out]; omega) (by simp) (fun W _ _ j hj => by simp at hj) (fun x hx => by cases hx) (by simp [mapN]) (by omega) (rise_none _) hbs4 HS4.out (HG.out.below HB4.out)).mono ?_
              rintro e w5 (⟨hno, _⟩ | ⟨_, B, F1, F', rfl, hpu, hfo, _, hs5, hb5, _⟩)
              · exact absurd (chk_none now' (by omega)) hno
              obtain rfl := puts_none hpu rfl
              obtain rfl := forgot_none hfo
              have HS5 := Lib.hid hs5
              have HB5 := Lib.hid (HB4.out.trans (hb5.mono hw1))
              have hbs5 : w1.heap.size ≤ w5.heap.size := Nat.le_trans hbs4 hb5.size
              clear hs5 hb5 hpu hfo
              go_wp2_with fail
              go_roundw
              case rel => exact ⟨q + 1, now' + 1, by omega, by go_num, by omega, HS5.out, HB5.out, hbs5⟩
              case measure => simp [intOf]; omega
            · have hck : (lc[q] == (k : Int)) = false := by simpa using hck
              go_wp2_with fail
              go_roundw
              case rel => exact ⟨q + 1, now', by omega, by go_num, by omega, HS4.out, HB4.out, hbs4⟩
              case measure => simp [intOf]; omega
          · go_wp2_with fail
            refine (pin_any s g b pm now' [] L wr (base := w1.heap.size) (by rw [HL.out]; omega) (by omega) hbs4 HS4.out).mono ?_
            rintro e w5 (⟨h64, rfl, hb5⟩ | ⟨h64, rfl, hs5, hb5, _⟩)
            · have HB5 := Lib.hid (below_from HB4.out hb5)
              have HS5 := Lib.hid (HS4.out.below hb5)
              have hbs5 : w1.heap.size ≤ w5.heap.size := Nat.le_trans hbs4 hb5.size
              have hk64 : 64 ≤ k := by have := HL.out; omega
              have d1 : decide ((k : Int) < 64) = false := by simp; omega
              have HL2 : Hid (L.length = min (k + 1) 64) := Lib.hid (by omega)
              clear hb5 h64
              go_wp2_with fail
              go_roundw
              case rel => exact ⟨k + 1, now', L, by omega, by go_num, HL2.out, HLX.out, by omega, HS5.out, HB5.out, hbs5⟩
              case measure => simp [intOf]; omega
            · have HB5 := Lib.hid (HB4.out.trans (hb5.mono hw1))
              have HS5 := Lib.hid hs5
              have hbs5 : w1.heap.size ≤ w5.heap.size := Nat.le_trans hbs4 hb5.size
              have hk64 : k < 64 := by have := HL.out; omega
              have d1 : decide ((k : Int) < 64) = true := by simp; omega
              have HL2 : Hid ((L ++ [(now' : Int)]).length = min (k + 1) 64) := Lib.hid (by simp; have := HL.out; omega)
              have HLX2 : Hid (∀ x ∈ L ++ [(now' : Int)], 0 ≤ x ∧ x ≤ 1000) := Lib.hid (fun x hx => by
                rcases List.mem_append.1 hx with hx | hx
                · exact HLX.out x hx
                · rw [List.mem_singleton.1 hx]; omega)
              have x0 := (store_cells hs5).1
              clear hb5 hs5 h64
              go_wp2_with fail
              refine (now_any g b now' [] w5 HS5.out.tree).mono ?_
              rintro e w6 ⟨rfl, rfl⟩
              go_wp2_with fail
              go_roundw
              case rel => exact ⟨k + 1, now', _, by omega, by go_num, HL2.out, HLX2.out, by omega, HS5.out, HB5.out, hbs5⟩
              case measure => simp [intOf]; omega
      · obtain rfl : k = N := by omega
        by_cases hd4 : (k : Int) < 64
        · go_wp2_with fail
          go_ret
          exact ⟨rfl, HB3.out⟩
        · have hL64 : L.length = 64 := by have := HL.out; omega
          have hw3 : w1.heap.size ≤ w3.heap.size := hbs3
          go_wp2_with fail
          refine (pinned_any s g b pm now [] L w3 (by omega) HS3.out).mono ?_
          rintro e w4 ⟨A, c, K, rfl, hso, hkl, how, hb4⟩
          have HS4 := Lib.hid (HS3.out.below hb4)
          have HB4 := Lib.hid (below_from HB3.out hb4)
          have hbs4 : w1.heap.size ≤ w4.heap.size := Nat.le_trans hbs3 hb4.size
          have HSO := Lib.hid hso
          have HIR : Hid (IntRow w4 A K) := Lib.hid (by
            obtain ⟨A', c', e1, _, h1⟩ := own_intRow how
            injection e1 with e1
            rw [e1]
            exact h1)
          clear hso how hb4
          have H64 := Lib.hid hL64
          clear hL64
          go_wp2_with fail
          refine (pin_any s g b pm now [] L w4 (base := w1.heap.size) (by rw [H64.out]; omega) (by omega) hbs4 HS4.out).mono ?_
          rintro e w5 (⟨_, rfl, hb5⟩ | ⟨hno, _⟩)
          rotate_left
          · exact absurd H64.out hno
          have HB5 := Lib.hid (below_from HB4.out hb5)
          have HS5 := Lib.hid (HS4.out.below hb5)
          have hbs5 : w1.heap.size ≤ w5.heap.size := Nat.le_trans hbs4 hb5.size
          have hKn : 0 < K.length := by
            cases hL : L with
            | nil => have := H64.out; rw [hL] at this; simp at this
            | cons a t => exact List.length_pos_of_mem ((HSO.out.mem a).2 (by rw [hL]; simp))
          obtain ⟨ad, rfl, hcell⟩ := (HIR.out.below hb5) hKn
          have x1 := hcell 0 hKn
          have had : ad.add 0 = ad := by
            obtain ⟨b, o, sp⟩ := ad
            cases sp <;> rfl
          rw [had] at x1
          obtain ⟨v, hv⟩ : ∃ v, v = K[0] := ⟨_, rfl⟩
          rw [← hv] at x1
          have hvL : v ∈ L := (HSO.out.mem v).1 (hv ▸ List.getElem_mem hKn)
          have HVL := Lib.hid hvL
          clear hb5 hcell hv hvL had
          go_wp2_with fail
          have hvw : (Lit.int .i64 v).wf = true := by
            have := HLX.out v HVL.out
            simp [Lit.wf, IntKind.min, IntKind.max, IntKind.signed, IntKind.bits]
            omega
          refine (unpin_any s g b pm now [] L v w5 (base := w1.heap.size) hvw (by rw [H64.out]; omega) (by simp [mapN]) (by omega) (rise_none _) hbs5 HS5.out).mono ?_
          rintro e w6 (⟨hno, _⟩ | ⟨_, F', rfl, _, _, _, hs6, hb6, _⟩)
          · exact absurd HVL.out hno
          have HB6 := Lib.hid (HB5.out.trans (hb6.mono hw1))
          have HS6 := Lib.hid hs6
          have hbs6 : w1.heap.size ≤ w6.heap.size := Nat.le_trans hbs5 hb6.size
          have hl63 : (L.erase v).length ≠ 64 := by
            have := erase_len HVL.out
            have := H64.out
            omega
          have hl64 : (L.erase v).length ≤ 64 := by
            have := erase_len HVL.out
            have := H64.out
            omega
          have HL63 := Lib.hid hl63
          have HL64 := Lib.hid hl64
          clear hs6 hb6 hl63 hl64
          go_wp2_with fail
          refine (pin_any s g b pm now F' (L.erase v) w6 (base := w1.heap.size) (by have := HL64.out; omega) (by omega) hbs6 HS6.out).mono ?_
          rintro e w7 (⟨hno, _⟩ | ⟨_, rfl, _, hb7, _⟩)
          · exact absurd hno HL63.out
          have HB7 := Lib.hid (HB6.out.trans (hb7.mono hw1))
          clear hb7
          go_wp2_with fail
          go_ret
          exact ⟨rfl, HB7.out⟩
end Go.Proofs.YtmamkegcnacbbaaDoor
