/-
  The law ViewLittle, walked.
-/
import Derived.Test.YtpicbimhgicnmaaGreatDoorViewLittleP
import Derived.Outline
set_option linter.unusedVariables false
set_option linter.unusedSimpArgs false
namespace Go.Proofs.YtpicbimhgicnmaaGreatDoor
open Go.RowKit Go.Maps Go.WideMaps Go.WideAt
open Go.Proofs.YtpicbimhgicnmaaGreatDoorW.PrintWords (Kd ReadsRow)
/-- The state between the operations of a script. -/
structure LitAt (w0 : World) (bs s g b pm : Nat) (k now : Nat) (F : List FileS) (L : List Int) (wr : World) : Prop where
  store : StoreAt wr bs s g b pm now F L
  little : LittleV now F L
  size : mapN F ≤ k * 20
  nows : now ≤ k
  below : Below w0.heap.size w0 wr
  base : bs ≤ wr.heap.size
theorem LitAt.stay {w0 : World} {bs s g b pm k now : Nat} {F : List FileS} {L : List Int} {wr w' : World} (h : LitAt w0 bs s g b pm k now F L wr) (hb : Below wr.heap.size wr w') : LitAt w0 bs s g b pm k now F L w' :=
  ⟨h.store.below hb, h.little, h.size, h.nows, below_from h.below hb, Nat.le_trans h.base hb.size⟩
theorem LitAt.did {w0 : World} {bs s g b pm k now : Nat} {F : List FileS} {L : List Int} {wr w' : World} (h : LitAt w0 bs s g b pm k now F L wr) {o : OpV} {e : Ending} (hp : DonePost s g b pm now o F L bs wr e w') (ho : o.2.2.length ≤ 20) (hbs : w0.heap.size ≤ bs) :
    ∃ u1 u2 now' F' L', e = .returned (.tuple #[u1, u2]) ∧ LitAt w0 bs s g b pm (k + 1) now' F' L' w' := by
  obtain ⟨n, ver, now', F', L', rfl, hd, hsz, hs, hb, hf⟩ := hp
  obtain ⟨hk, h1, h2⟩ := h.little.did hd h.store.tree.once
  exact ⟨_, _, now', F', L', rfl, hs, hk, by have := h.size; omega, by have := h.nows; omega, h.below.trans (hb.mono hbs), Nat.le_trans h.base hb.size⟩
set_option maxRecDepth 100000 in
set_option maxHeartbeats 16000000 in
theorem viewLittle_walk (v2 : Value) (sc : List OpV) (w : World) (hv2 : SliceArg kOpV w v2 sc) (hg2 : ∀ x ∈ sc, OpVArg x) (hg : Env w) :
    Calls Tryz.prog 3 #[v2] w fun e w' => e = .returned (.bool true) ∧ Below w.heap.size w w' := by
  obtain ⟨A2, c2, rfl, hlc2, hcm2, hC2⟩ := hv2
  have hmx : (maxLen : Nat) = 9223372036854775807 := rfl
  obtain ⟨hr2, hl2⟩ := opVRow_of hC2
  have HK := Lib.hid (looks_any w hg.ml)
  have HG := Lib.hid hg
  have HR2 := Lib.hid hr2
  have HL2 := Lib.hid hl2
  have HG2 := Lib.hid hg2
  clear hC2 hg2 hg hr2 hl2
  go_enter Tryz.func3, Tryz.ntmps3
  go_wp2_with fail
  refine HK.out.mono ?_
  rintro e w1 ⟨rfl, hb1⟩
  have HB1 := Lib.hid hb1
  clear hb1
  go_wp2_with fail
  refine (fits_view A2 c2 sc w1 (HR2.out.below HB1.out) (by omega) (fun o ho => ⟨(HL2.out o ho).1, fun x hx => ⟨by have := ((HG2.out o ho).2.2 x hx).1; omega, (HL2.out o ho).2 x hx⟩⟩)).mono ?_
  rintro e w2 ⟨rfl, hb2⟩
  have HB2 := Lib.hid (below_from HB1.out hb2)
  clear hb2
  cases hft : fitV sc with
  | false =>
    go_wp2_with fail
    go_ret
    exact ⟨rfl, HB2.out⟩
  | true =>
    have hfs := good_fits hft HG2.out
    have hsc : sc.length ≤ 100 := (fitV_out hft).1
    have HFS := Lib.hid hfs
    clear hft hfs
    go_wp2_with fail
    refine (new_store w2).mono ?_
    rintro e w3 ⟨s, g, b, pm, rfl, hs3, hb3⟩
    have hbs2 : w.heap.size ≤ w2.heap.size := HB2.out.size
    have HS3 : Hid (LitAt w w2.heap.size s g b pm 0 0 [] [] w3) := Lib.hid ⟨hs3, little_none, by simp [mapN], by omega, below_from HB2.out hb3, hb3.size⟩
    clear hs3 hb3
    go_wp2_with fail
    go_loopw [19] (fun i wr => ∃ (k now : Nat) (F : List FileS) (L : List Int), k ≤ sc.length ∧ i = .int .i64 k ∧ LitAt w w2.heap.size s g b pm k now F L wr) (fun i _ => sc.length - (intOf i).toNat)
    case atStart => exact ⟨0, 0, [], [], by omega, rfl, HS3.out⟩
    case round =>
      obtain ⟨k, now, F, L, hk, rfl, hst⟩ := hrel
      obtain ⟨wk, rfl⟩ : ∃ W, W = wr := ⟨wr, rfl⟩
      have HS := Lib.hid hst
      clear hst
      by_cases hlt : k < sc.length
      · obtain ⟨bb, off, A3, c3, rfl, x1, x2, x3, x4, x5⟩ := HR2.out k hlt
        obtain ⟨o, ho⟩ : ∃ o, o = sc[k] := ⟨_, rfl⟩
        have hfo := HFS.out o (ho ▸ List.getElem_mem hlt)
        rw [← ho] at x1 x2 x3 x4 x5
        clear ho
        obtain ⟨kd, nn, cs⟩ := o
        simp only at x1 x2 x3 x4 x5 hfo
        replace x1 := cell_below HS.out.below x1
        replace x2 := cell_below HS.out.below x2
        replace x3 := cell_below HS.out.below x3
        have HCR := Lib.hid x5
        have hcs20 : cs.length ≤ 20 := hfo.1
        have hnw := hfo.2.1
        have HGC := Lib.hid hfo.2.2
        have hbo := below_one wk (.cells #[.int .i64 kd, .int .i64 nn, .slice A3 cs.length c3] 29)
        have HS1 := Lib.hid (HS.out.stay hbo)
        clear x5 hfo hbo
        go_wp2_with fail
        refine (done_any s g b pm now kd nn A3 c3 cs F L _ (base := w2.heap.size) hnw (by have := HS1.out.little.len; omega) (by omega) (fun W hW => HCR.out.below (HS1.out.below.trans (hW.mono hbs2))) x4 HGC.out (by have := HS1.out.size; omega) (by have := HS1.out.nows; omega) HS1.out.little.rise HS1.out.base HS1.out.store (fun W hW => HG.out.below (HS1.out.below.trans (hW.mono hbs2)))).mono ?_
        intro e w10 hp
        obtain ⟨u1, u2, now2, F2, L2, rfl, hst2⟩ := HS1.out.did hp hcs20 hbs2
        have HS2 := Lib.hid hst2
        clear hp hst2
        go_wp2_with fail
        go_roundw
        case rel => exact ⟨k + 1, now2, F2, L2, by omega, by go_num, HS2.out⟩
        case measure => simp [intOf]; omega
      · have hk100 : k ≤ 100 := by omega
        have hL64 := HS.out.little.len
        have hsz := HS.out.size
        have hnw := HS.out.nows
        go_wp2_with fail
        refine (pinned_any s g b pm now F L wk (by omega) HS.out.store).mono ?_
        rintro e w4 ⟨A, c, K, rfl, hso, hkl, how, hb4⟩
        have HS4 := Lib.hid (HS.out.stay hb4)
        have HSO := Lib.hid hso
        have HOW := Lib.hid (own_mono how HS.out.base)
        clear hso how hb4
        go_wp2_with fail
        go_loopw [30] (fun i wr => ∃ (q : Nat) (F' : List FileS) (L' : List Int), q ≤ K.length ∧ i = .int .i64 q ∧ LitAt w w2.heap.size s g b pm k now F' L' wr ∧ wr.ownsRow w2.heap.size 3 1 (.slice A K.length c) K.length (i64V K) ∧ ∀ x ∈ L', ∃ j, ∃ h : j < K.length, q ≤ j ∧ K[j] = x) (fun i _ => K.length - (intOf i).toNat)
        case atStart => exact ⟨0, F, L, by omega, rfl, HS4.out, HOW.out, fun x hx => by
          obtain ⟨j, hj, e⟩ := List.getElem_of_mem ((HSO.out.mem x).2 hx)
          exact ⟨j, hj, by omega, e⟩⟩
        case round =>
          obtain ⟨q, F', L', hq, rfl, hst, how, hall⟩ := hrel
          obtain ⟨wq, rfl⟩ : ∃ W, W = wr := ⟨wr, rfl⟩
          have HS5 := Lib.hid hst
          have HOW5 := Lib.hid how
          have HALL := Lib.hid hall
          clear hst how hall
          by_cases hql : q < K.length
          · obtain ⟨A', c', e1, _, hir⟩ := own_intRow HOW5.out
            injection e1 with e1 _ e2
            subst e1
            subst e2
            obtain ⟨ad, rfl, hcell⟩ := hir (by omega)
            have x1 := hcell q hql
            obtain ⟨v, hv⟩ : ∃ v, v = K[q] := ⟨_, rfl⟩
            rw [← hv] at x1
            have hvL : v ∈ L := (HSO.out.mem v).1 (hv ▸ List.getElem_mem hql)
            have hvw : (Lit.int .i64 v).wf = true := by
              have := HS.out.little.vers v hvL
              simp [Lit.wf, IntKind.min, IntKind.max, IntKind.signed, IntKind.bits]
              omega
            have HV := Lib.hid hv
            clear hcell hir hv hvL
            go_wp2_with fail
            go_loopw [8] (fun nv wr => ∃ (j : Nat) (F4 : List FileS) (L4 : List Int), nv = .int .i64 j ∧ j + L4.count v = L'.count v ∧ LitAt w w2.heap.size s g b pm k now F4 L4 wr ∧ wr.ownsRow w2.heap.size 3 1 (.slice (some ad) K.length c) K.length (i64V K) ∧ ∀ x ∈ L4, x ∈ L') (fun nv _ => 65 - (intOf nv).toNat)
            case atStart => exact ⟨0, F', L', rfl, by omega, HS5.out, HOW5.out, fun x hx => hx⟩
            case round =>
              obtain ⟨j, F4, L4, rfl, hcnt, hst, how, hsub⟩ := hrel
              obtain ⟨wn, rfl⟩ : ∃ W, W = wr := ⟨wr, rfl⟩
              have HS6 := Lib.hid hst
              have HOW6 := Lib.hid how
              have HSUB := Lib.hid hsub
              have HCNT := Lib.hid hcnt
              have hjle : j ≤ 64 := by
                have h1 := List.count_le_length (a := v) (l := L')
                have := HS5.out.little.len
                omega
              have hl4 := HS6.out.little.len
              have hm4 := HS6.out.size
              clear hst how hsub hcnt
              go_wp2_with fail
              refine (unpin_any s g b pm now F4 L4 v wn (base := w2.heap.size) hvw (by omega) (by omega) (by omega) HS6.out.little.rise HS6.out.base HS6.out.store).mono ?_
              intro e w11 hp
              by_cases hin : v ∈ L4
              · obtain ⟨F5, rfl, hd, hsz5, hs11, hb11, hf11⟩ := unpin_did hp hin
                have hc1 : (L4.erase v).count v + 1 = L4.count v := by
                  have h1 : 0 < L4.count v := List.count_pos_iff.2 hin
                  rw [List.count_erase_self]
                  omega
                have hcn2 : j + 1 + (L4.erase v).count v = L'.count v := by have := HCNT.out; omega
                have hjl : j < 64 := by
                  have h1 := List.count_le_length (a := v) (l := L')
                  have := HS5.out.little.len
                  omega
                have HS7 : Hid (LitAt w w2.heap.size s g b pm k now F5 (L4.erase v) w11) := Lib.hid ⟨hs11, (HS6.out.little.did hd HS6.out.store.tree.once).1, Nat.le_trans hsz5 hm4, HS6.out.nows, HS6.out.below.trans (hb11.mono hbs2), Nat.le_trans HS6.out.base hb11.size⟩
                have HOW7 := Lib.hid (hf11.own HOW6.out (by decide) (by decide) (by decide))
                have HC2 := Lib.hid hcn2
                clear hp hd hs11 hb11 hf11 hc1 hcn2 hsz5
                go_wp2_with fail
                go_roundw
                case rel => exact ⟨j + 1, F5, _, by go_num, HC2.out, HS7.out, HOW7.out, fun x hx => HSUB.out x (mem_erase_le hx)⟩
                case measure => simp [intOf]; omega
              · rcases hp with ⟨_, rfl, hb11⟩ | ⟨hyes, _⟩
                · have HS7 := Lib.hid (HS6.out.stay hb11)
                  have HOW7 := Lib.hid (own_stay HOW6.out hb11)
                  have HIN := Lib.hid hin
                  clear hb11 hin
                  go_wp2_with fail
                  go_roundw
                  case rel => exact ⟨q + 1, F4, L4, by omega, by go_num, HS7.out, HOW7.out, fun x hx => by
                    obtain ⟨j2, h2, h3, h4⟩ := HALL.out x (HSUB.out x hx)
                    refine ⟨j2, h2, ?_, h4⟩
                    by_cases e : j2 = q
                    · subst e
                      exact absurd (by rw [HV.out, h4]; exact hx) HIN.out
                    · omega⟩
                  case measure => simp [intOf]; omega
                · exact absurd hyes hin
          · have hL0 : L' = [] := by
              cases hL' : L' with
              | nil => rfl
              | cons x t =>
                obtain ⟨j, h1, h2, _⟩ := HALL.out x (by rw [hL']; simp)
                omega
            subst hL0
            have hm5 := HS5.out.size
            have x00 := (store_cells HS5.out.store).1
            go_wp2_with fail
            refine (now_any g b now F' wq HS5.out.store.tree).mono ?_
            rintro e w6 ⟨rfl, rfl⟩
            obtain ⟨l, hl⟩ : ∃ l, (listT now F' now ⟨#[]⟩).1 = l := ⟨_, rfl⟩
            have hst := HS5.out.little.states HS5.out.store.tree.once rfl
            rw [hl] at hst
            have hlv : listV now F' [] now ⟨#[]⟩ = (l, 0) := by
              have h0 : thereV now [] (now : Int) = 0 := by
                unfold thereV
                rw [if_neg (by omega), if_neg (by omega)]
              rw [listV, if_neg (by rw [h0]; simp), ← hl]
              refine Prod.ext rfl ?_
              rw [listT, if_neg (by omega)]
            have hnww : (Lit.int .i64 (now : Int)).wf = true := by simp [Lit.wf, IntKind.min, IntKind.max, IntKind.signed, IntKind.bits]; omega
            have HLV := Lib.hid hlv
            have HST := Lib.hid hst
            clear hl hlv hst
            go_wp2_with fail
            refine (slist_any s g b pm now F' [] now ⟨#[]⟩ l 0 _ hnww (by decide) (by omega) HS5.out.store HLV.out).mono ?_
            rintro e w7 ⟨Al, cl, rfl, hlc, hln, _, _, hb7⟩
            have HS7 := Lib.hid (HS5.out.stay hb7)
            have x0 := (store_cells HS7.out.store).1
            clear hb7
            go_wp2_with fail
            refine (states_any g b now F' w7 (by omega) HS7.out.store.tree).mono ?_
            rintro e w8 ⟨rfl, hb8⟩
            have HS8 := Lib.hid (HS7.out.stay hb8)
            have dl : ((l.length : Int) == (l.length : Int)) = true := by simp
            rw [← HST.out]
            clear hb8 x0
            go_wp2_with fail
            refine (pinned_any s g b pm now F' [] w8 (by simp) HS8.out.store).mono ?_
            rintro e w9 ⟨A9, c9, K9, rfl, hso9, hkl9, _, hb9⟩
            have hK9 : K9 = [] := List.length_eq_zero_iff.1 (by simpa using hkl9)
            subst hK9
            have HS9 := Lib.hid (HS8.out.stay hb9)
            clear hb9 hso9
            go_wp2_with fail
            go_ret
            exact ⟨rfl, HS9.out.below⟩
end Go.Proofs.YtpicbimhgicnmaaGreatDoor
