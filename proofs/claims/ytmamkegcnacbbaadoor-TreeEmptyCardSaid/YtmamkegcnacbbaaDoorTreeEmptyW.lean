/-
  The law TreeEmpty, walked.
-/
import Derived.Test.YtmamkegcnacbbaaDoorTreeValid
import Derived.Outline
set_option linter.unusedVariables false
set_option linter.unusedSimpArgs false
namespace Go.Proofs.YtmamkegcnacbbaaDoor
open Go.RowKit Go.Maps Go.WideMaps Go.WideAt
open Go.Proofs.YtmamkegcnacbbaaDoorW.PrintWords (Kd ReadsRow)
theorem ErrV.frame {w w' : World} {b : Nat} {v : Value} {g : GErr} (h : ErrV w v g) (hf : TFrame b w w') (hb : ∀ cs t fr, w.heap[b]? ≠ some (Obj.cells cs t fr)) (hg : ∀ p e, g ≠ .joined p e) : ErrV w' v g := by
  cases g with
  | nil => exact h
  | errno e => exact h
  | joined p e => exact absurd rfl (hg p e)
  | fault p e =>
    obtain ⟨k, rfl, c0, c1, cs, fr, hh⟩ := h
    have e1 : w'.heap[k]? = w.heap[k]? := hf.block k (lt_of_block hh) (fun e => hb _ _ _ (e ▸ hh)) (fun cells t hc => by
      rw [hh] at hc
      injection hc with hc
      injection hc with _ e2
      rw [← e2]
      exact ⟨by decide, by decide⟩)
    refine ⟨k, rfl, ?_, ?_, cs, fr, e1.trans hh⟩
    · rw [World.cell?_of_block (a := ⟨k, 0, none⟩) e1]; exact c0
    · rw [World.cell?_of_block (a := ⟨k, 1, none⟩) e1]; exact c1
theorem chg_lit {W0 W : World} {b B : Nat} {p : ByteArray} {A' : Option Addr} {c' : Nat} {d : List Int} {gn : Bool} (hb : W0.heap[B]? = some (Obj.cells #[.string p, .slice A' d.length c', .bool gn] 43 (0, 0)))
    (hr : ByteRow W A' d) (hA : A' = none → d.length = 0) (hle : d.length ≤ c') (hm : ∀ cs t fr, W0.heap[b]? ≠ some (Obj.cells cs t fr)) (hf : TFrame b W0 W) : ChgRow W (some ⟨B, 0, none⟩) [(p, d, gn)] := by
  intro k hk
  obtain rfl : k = 0 := by simp at hk; omega
  have hB : W.heap[B]? = some (Obj.cells #[.string p, .slice A' d.length c', .bool gn] 43 (0, 0)) :=
    (hf.block B (lt_of_block hb) (fun e => hm _ _ _ (e ▸ hb)) (fun cs2 t2 hc => by
      rw [hb] at hc
      injection hc with hc
      injection hc with _ e1
      rw [← e1]
      exact ⟨by decide, by decide⟩)).trans hb
  exact ⟨B, 0, A', c', rfl, by simp [World.cell?, hB], by simp [World.cell?, hB], by simp [World.cell?, hB], hle, hr, hA⟩
theorem byteRow_none {w : World} : ByteRow w none [] := fun ad e => by cases e
theorem commit_valid {g b now : Nat} {l : List ChgD} {F : List FileS} {base : Nat} {w : World} {e : Ending} {w' : World} (hp : CommitPost g b now l F base w e w') (ht : TreeAt w base g b now F) (hr : RiseF now F) (hv : ValidT now F) (hbase : base ≤ w.heap.size) :
    ∃ u1 u2 now' F', e = .returned (.tuple #[u1, u2]) ∧ Mid g b now l.length F base w w' now' F' ∧ ValidT now' F' := by
  rcases hp with ⟨_, t, v, rfl, _, h1, h2⟩ | ⟨hc, F', rfl, h1, h2, h3, h4⟩
  · exact ⟨_, _, now, F, rfl, ⟨h1, h2.mono hbase, by omega, by omega, hr, TFrame.of_below h2⟩, hv⟩
  · exact ⟨_, _, now + 1, F', rfl, ⟨h2, h3, Nat.le_of_eq (puts_size h1 ht.once).1, by omega, (rise_puts h1 hr (chkT_once hc).1).1, h4⟩, valid_puts hc h1 hr ht.once⟩
theorem puts_nil {n B : Nat} {F F' : List FileS} {l : List ChgD} (h : Puts n B F l F') (hl : l = []) : F' = F := by
  cases h with
  | none => rfl
  | one c v dv h hd => simp at hl
def zzP : ByteArray := ⟨#[122, 122, 46, 122, 122]⟩
theorem path_zz : checkB zzP = none := by decide
theorem zz_list : zzP.toList = [122, 122, 46, 122, 122] := by kernel_rfl
theorem zz_back {now B1 B2 : Nat} {F F2 F3 : List FileS} {d : List Int} {L : List ByteArray} (ho : (F.map FileS.path).Nodup) (hr : RiseF now F) (h2 : Puts (now + 1 + 1) B1 F [(zzP, d, false)] F2) (h3 : Puts (now + 1 + 1 + 1) B2 F2 [(zzP, [], true)] F3) (hL : (listT now F now ⟨#[]⟩).1 = L) (hz : zzP ∉ L) :
    (listT (now + 1 + 1 + 1) F3 ((now : Int) + 1 + 1 + 1) ⟨#[]⟩).1 = L := by
  rw [← hL]
  refine congrArg Prod.fst (list_vis ho (puts_size h3 (puts_size h2 ho).2).2 (fun p => ?_) (by omega) (by omega) (by omega) (by omega) _)
  by_cases e : p = zzP
  · subst e
    obtain ⟨dv, _, e3⟩ := puts_mem h3 (by simp) (ver := (now : Int) + 1 + 1 + 1) (by omega) (c := (zzP, [], true)) (by simp)
    have e4 : thereB F3 ((now : Int) + 1 + 1 + 1) zzP = false := by
      unfold thereB
      rw [show (zzP : ByteArray) = (zzP, ([] : List Int), true).1 from rfl, e3]
      rfl
    rw [e4]
    cases ht : thereB F now zzP with
    | false => rfl
    | true =>
      exfalso
      refine hz ?_
      rw [← hL, list_mem (by omega) (by omega)]
      exact ⟨there_path ht, beneath_root.2 (check_nonempty path_zz), ht⟩
  · unfold thereB
    rw [puts_not h3 (by simpa using e), puts_not h2 (by simpa using e), rise_top hr (show (now : Int) ≤ (now : Int) + 1 + 1 + 1 by omega) (Int.le_refl _)]
set_option maxRecDepth 100000 in
set_option maxHeartbeats 16000000 in
theorem treeEmpty_walk (v1 : Value) (l1 : List ChgD) (v2 : Value) (d : List Int) (w : World) (hv1 : SliceArg kChg w v1 l1) (hg1 : ∀ x ∈ l1, ChgArg x) (hv2 : SliceArg (Kd.int .u8) w v2 d) (hg2 : ∀ x ∈ d, (Lit.int .u8 x).wf = true) (hg : Env w) :
    Calls Tryd.prog 11 #[v1, v2] w fun e w' => e = .returned (.bool true) ∧ Below w.heap.size w w' := by
  obtain ⟨A1, c1, rfl, hlc1, hcm1, hC1⟩ := hv1
  obtain ⟨A2, c2, rfl, hlc2, hcm2, hC2⟩ := hv2
  have hmx : (maxLen : Nat) = 9223372036854775807 := rfl
  obtain ⟨hrow2, hA2⟩ := byteRow_of hC2
  have HK := Lib.hid (grows_any w hg.ml)
  have HG := Lib.hid hg
  have HR1 := Lib.hid (chgRow_of hC1)
  have HL1 := Lib.hid (chgLen_of hC1)
  have HR2 := Lib.hid hrow2
  have HA2 := Lib.hid hA2
  have HG1 := Lib.hid hg1
  have HG2 := Lib.hid hg2
  clear hC1 hC2 hg1 hg2 hg hrow2 hA2
  go_enter Tryd.func11, Tryd.ntmps11
  go_wp2_with fail
  refine HK.out.mono ?_
  rintro e w1 ⟨rfl, hb1⟩
  have HB1 := Lib.hid hb1
  clear hb1
  go_wp2_with fail
  have hbl := below_one w1 (.cells #[.int .i64 0, .slice A1 l1.length c1, .slice none 0 0] 52)
  have HB2 := Lib.hid (below_from HB1.out hbl)
  have hrow := opRow_one (heap_alloc_new w1 _) hlc1 (HR1.out.below HB2.out)
  refine (fits_tree (some ⟨w1.heap.size, 0, none⟩) 1 [(0, l1, [])] _ hrow (by simp) ?_).mono ?_
  · intro o ho
    rw [List.mem_singleton.1 ho]
    exact ⟨by show l1.length ≤ _; omega, by simp, fun x hx => ⟨by have := (HG1.out x hx).1; omega, HL1.out x hx⟩⟩
  rintro e w2 ⟨rfl, hb2⟩
  have HB3 := Lib.hid (below_from HB2.out hb2)
  clear hb2 hrow hbl
  cases hft : fitT [(0, l1, [])] with
  | false =>
    go_wp2_with fail
    go_ret
    exact ⟨rfl, HB3.out⟩
  | true =>
    have F1 := fits1_of hft (o := (0, l1, [])) (by simp) HG1.out
    have hn1 : l1.length ≤ 80 := F1.len
    have HF1 := Lib.hid F1.good
    clear F1 hft
    by_cases hd : d.length ≤ 1000
    · have d1 : decide ((1000 : Int) < (d.length : Int)) = false := by simp; omega
      go_wp2_with fail
      refine (new_tree w2).mono ?_
      rintro e w3 ⟨g, b, rfl, ht3, hb3⟩
      have HT3 := Lib.hid ht3
      have HB4 := Lib.hid (below_from HB3.out hb3)
      have hw2 : w.heap.size ≤ w2.heap.size := HB3.out.size
      have hw3 : w2.heap.size ≤ w3.heap.size := hb3.size
      clear ht3 hb3
      go_wp2_with fail
      refine (commit_any g b 0 A1 c1 l1 [] w3 (base := w2.heap.size) (by omega) (fun W hW _ => HR1.out.below (HB4.out.trans (hW.mono hw2))) HF1.out (fun f hf => by cases hf) (by simp) (by omega) HT3.out hw3 (HG.out.ml.below HB4.out)).mono ?_
      intro e w4 hp
      obtain ⟨u1, u2, now1, F1, rfl, hm, hval⟩ := commit_valid hp HT3.out (rise_none _) valid_none hw3
      have HM := Lib.hid hm
      have HV := Lib.hid hval
      have HB5 := Lib.hid (HB4.out.trans (hm.below.mono hw2))
      have hsz1 : mapN F1 ≤ 80 := by have := hm.size; have h0 : mapN ([] : List FileS) = 0 := rfl; omega
      have hnow1 := hm.now
      have hw4 : w2.heap.size ≤ w4.heap.size := Nat.le_trans hw3 hm.below.size
      have HSM := Lib.hid (hm.tree.small (m := 80) hsz1)
      clear hp hm hval
      go_wp2_with fail
      refine (now_any g b now1 F1 w4 HM.out.tree).mono ?_
      rintro e w5 ⟨rfl, rfl⟩
      go_wp2_with fail
      obtain ⟨L, hL⟩ : ∃ L, (listT now1 F1 now1 ⟨#[]⟩).1 = L := ⟨_, rfl⟩
      have HL := Lib.hid hL
      refine (list_text g b now1 now1 ⟨#[]⟩ F1 L w5 (by decide) (by omega) HM.out.tree (by omega) (Int.le_refl _) hL).mono ?_
      clear hL
      rintro e w6 ⟨Al, cl, rfl, hlc, hll, _, ho6, hb6⟩
      have HO6 := Lib.hid (own_mono ho6 hw4)
      have HT6 := Lib.hid (HM.out.tree.below hb6)
      have HB6 := Lib.hid (below_from HB5.out hb6)
      have hw6 : w2.heap.size ≤ w6.heap.size := Nat.le_trans hw4 hb6.size
      clear ho6 hb6
      go_wp2_with fail
      refine (commit_any g b now1 none 0 [] F1 w6 (base := w2.heap.size) (by simp) (fun W _ _ k hk => by simp at hk) (fun x hx => by cases hx) (fun f hf => Nat.le_trans (HSM.out.2 f hf) (by omega)) (by have := HSM.out.1; omega) (by omega) HT6.out hw6 (HG.out.ml.below HB6.out)).mono ?_
      intro e w7 hp
      rcases hp with ⟨hno, _⟩ | ⟨hc, F2, rfl, hpu, ht7, hb7, hf7⟩
      · exact absurd (chk_nothing HV.out (by omega)) hno
      have hv7 := valid_puts hc hpu HM.out.rise HT6.out.once
      obtain rfl := puts_nil hpu rfl
      have HV7 := Lib.hid hv7
      have HT7 := Lib.hid ht7
      have HB7 := Lib.hid (HB6.out.trans (hb7.mono hw2))
      have HO7 := Lib.hid (texts_stay HO6.out hf7 HT6.out)
      have hw7 : w2.heap.size ≤ w7.heap.size := Nat.le_trans hw6 hb7.size
      have HRI := Lib.hid HM.out.rise
      clear hc hpu ht7 hb7 hf7 hv7
      go_wp2_with fail
      have hbz := below_one w7 (.cells #[.string zzP, .slice A2 d.length c2, .bool false] 43)
      have HB8 := Lib.hid (below_from HB7.out hbz)
      have HT8 := Lib.hid (HT7.out.below hbz)
      have HO8 := Lib.hid (own_stay HO7.out hbz)
      have hw8 : w2.heap.size ≤ (w7.alloc (.cells #[.string zzP, .slice A2 d.length c2, .bool false] 43)).heap.size := Nat.le_trans hw7 hbz.size
      have HZB := Lib.hid (heap_alloc_new w7 (.cells #[.string zzP, .slice A2 d.length c2, .bool false] 43))
      clear hbz
      refine (commit_any g b (now1 + 1) (some ⟨w7.heap.size, 0, none⟩) 1 [(zzP, d, false)] F2 (w7.alloc (.cells #[.string zzP, .slice A2 d.length c2, .bool false] 43)) (base := w2.heap.size) (by simp) (fun W hW hf => chg_lit HZB.out (HR2.out.below (HB8.out.trans (hW.mono hw2))) HA2.out hlc2 HT8.out.noCells hf) (good_one zzP d false (by decide) HG2.out (by omega)) (fun f hf => Nat.le_trans (HSM.out.2 f hf) (by omega)) (by have := HSM.out.1; omega) (by omega) HT8.out hw8 (HG.out.ml.below HB8.out)).mono ?_
      generalize hW8 : w7.alloc (.cells #[.string zzP, .slice A2 d.length c2, .bool false] 43) = w8 at *
      intro e w9 hp
      rcases hp with ⟨hno, t, v, rfl, hev, ht9, hb9⟩ | ⟨hc, F3, rfl, hpu, ht9, hb9, hf9⟩
      · have HT9 := Lib.hid ht9
        have HB9 := Lib.hid (below_from HB8.out hb9)
        have HEV := Lib.hid hev
        have HNO := Lib.hid hno
        have hw9 : w2.heap.size ≤ w9.heap.size := Nat.le_trans hw8 hb9.size
        clear hev ht9 hb9 hno
        go_wp2_with fail
        have hbz := below_one w9 (.cells #[.string zzP, .slice none 0 0, .bool true] 43)
        have HB10 := Lib.hid (below_from HB9.out hbz)
        have HT10 := Lib.hid (HT9.out.below hbz)
        have HEV10 := Lib.hid (HEV.out.below hbz)
        have hw10 : w2.heap.size ≤ (w9.alloc (.cells #[.string zzP, .slice none 0 0, .bool true] 43)).heap.size := Nat.le_trans hw9 hbz.size
        have HZB2 := Lib.hid (heap_alloc_new w9 (.cells #[.string zzP, .slice none 0 0, .bool true] 43))
        clear hbz
        refine (commit_any g b (now1 + 1) (some ⟨w9.heap.size, 0, none⟩) 1 [(zzP, [], true)] F2 (w9.alloc (.cells #[.string zzP, .slice none 0 0, .bool true] 43)) (base := w2.heap.size) (by simp) (fun W hW hf => chg_lit HZB2.out byteRow_none (fun _ => rfl) (by simp) HT10.out.noCells hf) (good_one zzP [] true (by decide) (fun x hx => by cases hx) (by simp)) (fun f hf => Nat.le_trans (HSM.out.2 f hf) (by omega)) (by have := HSM.out.1; omega) (by omega) HT10.out hw10 (HG.out.ml.below HB10.out)).mono ?_
        intro e w11 hp
        obtain ⟨u1, u2, now2, F4, rfl, hm, _⟩ := commit_valid hp HT10.out (HRI.out.mono (by omega)) HV7.out hw10
        have HB11 := Lib.hid (HB10.out.trans (hm.below.mono hw2))
        have hcode := chk_one_code (now := now1 + 1) (F := F2) (d := d) path_zz
        have HEV11 := Lib.hid (HEV10.out.frame hm.frame HT10.out.noCells (fun p e => by
          rcases hcode with h | h | h <;> (rw [h]; intro e; cases e)))
        have HCODE := Lib.hid hcode
        clear hp hm hcode
        go_wp2_with fail
        rcases HCODE.out with h | h | h
        · exact absurd h HNO.out
        · have hev := HEV11.out
          rw [h] at hev
          have HE := Lib.hid hev
          clear h hev
          refine (number (.iface t v) (.fault 1 90) w11 HE.out (HG.out.below HB11.out)).mono ?_
          rintro e w12 ⟨rfl, hb12⟩
          have e90 : GErr.num (.fault 1 90) = 90 := rfl
          rw [e90]
          have HB12 := Lib.hid (below_from HB11.out hb12)
          have HE12 := Lib.hid (HE.out.below hb12)
          clear hb12
          go_wp2_with fail
          refine (number (.iface t v) (.fault 1 90) w12 HE12.out (HG.out.below HB12.out)).mono ?_
          rintro e w13 ⟨rfl, hb13⟩
          rw [e90]
          have HB13 := Lib.hid (below_from HB12.out hb13)
          clear hb13
          go_wp2_with fail
          go_ret
          exact ⟨rfl, HB13.out⟩
        · have hev := HEV11.out
          rw [h] at hev
          have HE := Lib.hid hev
          clear h hev
          refine (number (.iface t v) (.fault 1 3) w11 HE.out (HG.out.below HB11.out)).mono ?_
          rintro e w12 ⟨rfl, hb12⟩
          have e3 : GErr.num (.fault 1 3) = 3 := rfl
          rw [e3]
          have HB12 := Lib.hid (below_from HB11.out hb12)
          clear hb12
          go_wp2_with fail
          go_ret
          exact ⟨rfl, HB12.out⟩
      · have HPU := Lib.hid hpu
        have HC := Lib.hid hc
        have hv9 := valid_puts hc hpu (HRI.out.mono (by omega)) HT8.out.once
        have HV9 := Lib.hid hv9
        have HRI9 := Lib.hid (rise_puts hpu (HRI.out.mono (by omega)) (chkT_once hc).1).1
        have HT9 := Lib.hid ht9
        have HB9 := Lib.hid (HB8.out.trans (hb9.mono hw2))
        have HO9 := Lib.hid (texts_stay HO8.out hf9 HT8.out)
        have hw9 : w2.heap.size ≤ w9.heap.size := Nat.le_trans hw8 hb9.size
        have hsz9 := (puts_size hpu HT8.out.once).1
        have HSZ9 := Lib.hid hsz9
        have hrd9 := lit_read (now := now1 + 1 + 1) hpu (ver := (now1 : Int) + 1 + 1) (by omega) (by omega)
        have HRD9 := Lib.hid hrd9
        clear hpu hc ht9 hb9 hf9 hv9 hsz9 hrd9
        have hsm9 := HT9.out.small (m := 81) (by have h := HSZ9.out; simp only [List.length_singleton] at h; omega)
        have HSM9 := Lib.hid hsm9
        clear hsm9
        go_wp2_with fail
        have hbz := below_one w9 (.cells #[.string zzP, .slice none 0 0, .bool true] 43)
        have HB10 := Lib.hid (below_from HB9.out hbz)
        have HT10 := Lib.hid (HT9.out.below hbz)
        have HO10 := Lib.hid (own_stay HO9.out hbz)
        have hw10 : w2.heap.size ≤ (w9.alloc (.cells #[.string zzP, .slice none 0 0, .bool true] 43)).heap.size := Nat.le_trans hw9 hbz.size
        have HZB2 := Lib.hid (heap_alloc_new w9 (.cells #[.string zzP, .slice none 0 0, .bool true] 43))
        have hck : chkT (now1 + 1 + 1) F3 [(zzP, [], true)] = .nil := chk_gone HV9.out (by omega) path_zz (by
          have h := HRD9.out
          rw [read_vis, if_neg (by omega)] at h
          rw [there_vis]
          have hc : ((now1 + 1 + 1 : Nat) : Int) = (now1 : Int) + 1 + 1 := by omega
          rw [hc]
          cases hv : visO (atRow F3 ((now1 : Int) + 1 + 1) zzP) with
          | none => rw [hv] at h; cases h
          | some r => rfl)
        have HCK := Lib.hid hck
        clear hbz hck
        refine (commit_any g b (now1 + 1 + 1) (some ⟨w9.heap.size, 0, none⟩) 1 [(zzP, [], true)] F3 (w9.alloc (.cells #[.string zzP, .slice none 0 0, .bool true] 43)) (base := w2.heap.size) (by simp) (fun W hW hf => chg_lit HZB2.out byteRow_none (fun _ => rfl) (by simp) HT10.out.noCells hf) (good_one zzP [] true (by decide) (fun x hx => by cases hx) (by simp)) (fun f hf => Nat.le_trans (HSM9.out.2 f hf) (by omega)) (by have := HSM9.out.1; omega) (by omega) HT10.out hw10 (HG.out.ml.below HB10.out)).mono ?_
        generalize hW10 : w9.alloc (.cells #[.string zzP, .slice none 0 0, .bool true] 43) = w10 at *
        intro e w11 hp
        rcases hp with ⟨hno, _⟩ | ⟨hc, F4, rfl, hpu4, ht11, hb11, hf11⟩
        · exact absurd HCK.out hno
        have HPU4 := Lib.hid hpu4
        have HT11 := Lib.hid ht11
        have HB11 := Lib.hid (HB10.out.trans (hb11.mono hw2))
        have HO11 := Lib.hid (texts_stay HO10.out hf11 HT10.out)
        have hsz11 := (puts_size hpu4 HT10.out.once).1
        have hm11 : mapN F4 ≤ 90 := by have h := HSZ9.out; simp only [List.length_singleton] at h hsz11; omega
        have hrd11 : readT (now1 + 1 + 1 + 1) F4 ((now1 : Int) + 2) zzP = (d, 0) := by
          have e2 : (now1 : Int) + 2 = (now1 : Int) + 1 + 1 := by omega
          rw [e2, ← HRD9.out]
          exact read_elder hpu4 (by omega) (by omega) (by omega) (by omega) _
        have HRD11 := Lib.hid hrd11
        clear hpu4 ht11 hb11 hf11 hsz11 hrd11 hc
        go_wp2_with fail
        refine (now_any g b (now1 + 1 + 1 + 1) F4 w11 HT11.out).mono ?_
        rintro e w12 ⟨rfl, rfl⟩
        go_wp2_with fail
        obtain ⟨L4, hL4⟩ : ∃ L4, (listT (now1 + 1 + 1 + 1) F4 ((now1 : Int) + 1 + 1 + 1) ⟨#[]⟩).1 = L4 := ⟨_, rfl⟩
        have HL4 := Lib.hid hL4
        refine (list_text g b (now1 + 1 + 1 + 1) ((now1 : Int) + 1 + 1 + 1) ⟨#[]⟩ F4 L4 w12 (by decide) (by omega) HT11.out (by omega) (by omega) hL4).mono ?_
        clear hL4
        rintro e w13 ⟨An, cn, rfl, hnc, hnl, hnr, _, hb13⟩
        have HNR := Lib.hid hnr
        have HT13 := Lib.hid (HT11.out.below hb13)
        have HB13 := Lib.hid (below_from HB11.out hb13)
        have HO13 := Lib.hid (own_stay HO11.out hb13)
        clear hnr hb13
        go_wp2_with fail
        refine (read_text g b (now1 + 1 + 1 + 1) ((now1 : Int) + 2) zzP F4 d 0 w13 (by decide) (by omega) HT13.out HRD11.out).mono ?_
        rintro e w14 ⟨Ar, cr, rfl, hcv, _, hb14⟩
        have HB14 := Lib.hid (below_from HB13.out hb14)
        have HNR14 := Lib.hid (HNR.out.below hb14)
        have HOR14 := Lib.hid ((texts_row HO13.out).below hb14)
        have HCV := Lib.hid hcv
        clear hb14 hcv
        go_wp2_with fail
        go_loopw [99] (fun i wr => ∃ k : Nat, k ≤ L.length ∧ i = .int .i64 k ∧ Below w14.heap.size w14 wr ∧ ∀ j (h : j < L.length), j < k → L[j] ≠ zzP) (fun i _ => L.length - (intOf i).toNat)
        case atStart => exact ⟨0, by omega, rfl, Below.refl _ _, fun j h hj => by omega⟩
        case round =>
          obtain ⟨k, hk, rfl, hbr, hall⟩ := hrel
          have HALL := Lib.hid hall
          have HBR := Lib.hid hbr
          clear hall hbr
          by_cases hlt : k < L.length
          · obtain ⟨ad, rfl, htx⟩ := (HOR14.out.below HBR.out) (by omega)
            obtain ⟨p, hp⟩ : ∃ p, p = L[k] := ⟨_, rfl⟩
            have x1 := htx k hlt
            rw [← hp] at x1
            have HP := Lib.hid hp
            clear htx hp
            by_cases hz : p = zzP
            · rw [hz] at x1
              have hzl : (zzP.toList == [122, 122, 46, 122, 122]) = true := by kernel_rfl
              go_wp2_with fail
              go_ret
              exact ⟨rfl, below_from HB14.out HBR.out⟩
            · have hne := text_eq_false hz
              rw [zz_list] at hne
              go_wp2_with fail
              go_roundw
              case rel => exact ⟨k + 1, by omega, by go_num, HBR.out, fun j hj h => by
                by_cases e : j = k
                · subst e; rw [← HP.out]; exact hz
                · exact HALL.out j hj (by omega)⟩
              case measure => simp [intOf]; omega
          · have hz : zzP ∉ L := fun hm => by
              obtain ⟨j, hj, e⟩ := List.mem_iff_getElem.1 hm
              exact HALL.out j hj (by omega) e
            have hLL : L4 = L := by rw [← HL4.out]; exact zz_back HM.out.tree.once HRI.out HPU.out HPU4.out HL.out hz
            subst hLL
            have cv1 := HCV.out wr HBR.out
            have cv2 := conv_row c2 (HR2.out.below (below_from HB14.out HBR.out)) HA2.out
            obtain ⟨W1, rfl⟩ : ∃ W1, W1 = wr := ⟨wr, rfl⟩
            go_wp2_with fail
            refine (same_any An Al cn cl L4 L4 W1 (HNR14.out.below HBR.out) (HOR14.out.below HBR.out) (by omega) (by omega)).mono ?_
            rw [decide_eq_true rfl]
            rintro e w15 ⟨rfl, hb15⟩
            have HB15 := Lib.hid (below_from (below_from HB14.out HBR.out) hb15)
            clear hb15
            go_wp2_with fail
            go_ret
            exact ⟨rfl, HB15.out⟩
    · have d1 : decide ((1000 : Int) < (d.length : Int)) = true := by simp; omega
      go_wp2_with fail
      go_ret
      exact ⟨rfl, HB3.out⟩
end Go.Proofs.YtmamkegcnacbbaaDoor
