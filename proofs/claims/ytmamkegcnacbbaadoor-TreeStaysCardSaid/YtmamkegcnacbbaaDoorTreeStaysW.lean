/-
  The law TreeStays, walked.
-/
import Derived.Test.YtmamkegcnacbbaaDoorTreeScript
import Derived.Outline
set_option linter.unusedVariables false
set_option linter.unusedSimpArgs false
namespace Go.Proofs.YtmamkegcnacbbaaDoor
open Go.RowKit Go.Maps Go.WideMaps Go.WideAt
open Go.Proofs.YtmamkegcnacbbaaDoorW.PrintWords (Kd ReadsRow)
/-- What a version's files read as. -/
def dataT (now : Nat) (F : List FileS) (v : Int) (p : ByteArray) : List Int := (readT now F v p).1
def wasT (now : Nat) (F : List FileS) (v : Int) (L : List ByteArray) : List ByteArray := L.map fun p => strOfNums (dataT now F v p)
theorem data_there {now : Nat} {F : List FileS} {v : Int} {root q : ByteArray} (h : q ∈ (listT now F v root).1) : readT now F v q = (dataT now F v q, 0) := by
  obtain ⟨_, d, hd⟩ := list_there h
  unfold dataT
  rw [hd]
theorem path_small {w : World} {base g b now : Nat} {F : List FileS} (h : TreeAt w base g b now F) {p : ByteArray} (hp : p ∈ F.map FileS.path) : p.size ≤ maxLen := by
  obtain ⟨f, hf, rfl⟩ := List.mem_map.1 hp
  have := (h.files f hf).2.2.2
  unfold maxLen
  omega
/-- The state between the operations of a script. -/
structure StayAt (w0 : World) (bs g b : Nat) (F1 : List FileS) (A1 A2 : Option Addr) (c1 c2 : Nat) (L W : List ByteArray) (k now : Nat) (F : List FileS) (wr : World) : Prop where
  tree : TreeAt wr bs g b now F
  size : mapN F ≤ 80 + k * 80
  nows : 1 ≤ now ∧ now ≤ 1 + k
  rise : RiseF now F
  shows : Shows 1 F1 now F 1
  list : wr.ownsRow bs 9 1 (.slice A1 L.length c1) L.length (strs L)
  was : wr.ownsRow bs 9 1 (.slice A2 W.length c2) W.length (strs W)
  below : Below w0.heap.size w0 wr
  base : bs ≤ wr.heap.size
theorem StayAt.stay {w0 : World} {bs g b : Nat} {F1 : List FileS} {A1 A2 : Option Addr} {c1 c2 : Nat} {L W : List ByteArray} {k now : Nat} {F : List FileS} {wr w' : World} (h : StayAt w0 bs g b F1 A1 A2 c1 c2 L W k now F wr) (hb : Below wr.heap.size wr w') : StayAt w0 bs g b F1 A1 A2 c1 c2 L W k now F w' :=
  ⟨h.tree.below hb, h.size, h.nows, h.rise, h.shows, own_stay h.list hb, own_stay h.was hb, below_from h.below hb, Nat.le_trans h.base hb.size⟩
theorem StayAt.commit {w0 : World} {bs g b : Nat} {F1 : List FileS} {A1 A2 : Option Addr} {c1 c2 : Nat} {L W : List ByteArray} {k now m : Nat} {F F' : List FileS} {wr w' : World} {now' : Nat} (h : StayAt w0 bs g b F1 A1 A2 c1 c2 L W k now F wr) (hm : Mid g b now m F bs wr w' now' F') (hm80 : m ≤ 80) (hs : ∀ v, 0 ≤ v → v ≤ (now : Int) → Shows now F now' F' v) (hbs : w0.heap.size ≤ bs) : StayAt w0 bs g b F1 A1 A2 c1 c2 L W (k + 1) now' F' w' :=
  ⟨hm.tree, by have := hm.size; have := h.size; omega, by have := hm.now; have := h.nows; omega, hm.rise, h.shows.trans (hs 1 (by omega) (by have := h.nows; omega)), texts_stay h.list hm.frame h.tree, texts_stay h.was hm.frame h.tree, h.below.trans (hm.below.mono hbs), Nat.le_trans h.base hm.below.size⟩
theorem StayAt.forget {w0 : World} {bs g b : Nat} {F1 : List FileS} {A1 A2 : Option Addr} {c1 c2 : Nat} {L W : List ByteArray} {k now n : Nat} {keep : List Int} {F F' : List FileS} {wr w' : World} (h : StayAt w0 bs g b F1 A1 A2 c1 c2 L W k now F wr) (ht : TreeAt w' bs g b now F') (hn : n + mapN F' = mapN F) (hf : Forgot now keep F F') (hg : wr.grownBy w' (some b)) (hk : (1 : Int) ∈ keep) (hbs : w0.heap.size ≤ bs) : StayAt w0 bs g b F1 A1 A2 c1 c2 L W (k + 1) now F' w' :=
  ⟨ht, by have := h.size; omega, by have := h.nows; omega, hf.rise h.rise, h.shows.trans (shows_forgot hf h.tree.once h.rise (.inl hk) (by omega) (by have := h.nows; omega)), texts_map h.list hg h.tree, texts_map h.was hg h.tree,
    h.below.grown hg (Nat.le_trans hbs h.base) (fun j hj => by cases hj; exact Nat.le_trans hbs h.tree.hb), Nat.le_trans h.base hg.size⟩
set_option maxRecDepth 100000 in
set_option maxHeartbeats 16000000 in
theorem treeStays_walk (v1 : Value) (l1 : List ChgD) (v2 : Value) (sc : List OpT) (w : World) (hv1 : SliceArg kChg w v1 l1) (hg1 : ∀ x ∈ l1, ChgArg x) (hv2 : SliceArg kOpT w v2 sc) (hg2 : ∀ x ∈ sc, OpArg x) (hg : EnvM w) :
    Calls Tryd.prog 10 #[v1, v2] w fun e w' => e = .returned (.bool true) ∧ Below w.heap.size w w' := by
  obtain ⟨A1, c1, rfl, hlc1, hcm1, hC1⟩ := hv1
  obtain ⟨A2, c2, rfl, hlc2, hcm2, hC2⟩ := hv2
  have hmx : (maxLen : Nat) = 9223372036854775807 := rfl
  obtain ⟨hr2, hl2⟩ := opTRow_of hC2
  have HK := Lib.hid (grows_any w hg)
  have HG := Lib.hid hg
  have HR1 := Lib.hid (chgRow_of hC1)
  have HL1 := Lib.hid (chgLen_of hC1)
  have HR2 := Lib.hid hr2
  have HL2 := Lib.hid hl2
  have HG1 := Lib.hid hg1
  have HG2 := Lib.hid hg2
  clear hC1 hC2 hg1 hg2 hg hr2 hl2
  go_enter Tryd.func10, Tryd.ntmps10
  go_wp2_with fail
  refine HK.out.mono ?_
  rintro e w1 ⟨rfl, hb1⟩
  have HB1 := Lib.hid hb1
  clear hb1
  go_wp2_with fail
  refine (fits_tree A2 c2 sc w1 (HR2.out.below HB1.out) (by omega) (fun o ho => ⟨(HL2.out o ho).1, (HL2.out o ho).2.1, fun x hx => ⟨by have := ((HG2.out o ho).2.1 x hx).1; omega, (HL2.out o ho).2.2 x hx⟩⟩)).mono ?_
  rintro e w2 ⟨rfl, hb2⟩
  have HB2 := Lib.hid (below_from HB1.out hb2)
  clear hb2
  cases hft : fitT sc with
  | false =>
    go_wp2_with fail
    go_ret
    exact ⟨rfl, HB2.out⟩
  | true =>
    have hfo := fitT_out hft
    have hfs : ∀ o ∈ sc, Fits1 o.2.1 ∧ o.2.2.length ≤ 20 := fun o ho => ⟨fits1_of hft ho (HG2.out o ho).2.1, (hfo.2.1 o ho).2.1⟩
    have HFS := Lib.hid hfs
    have hsc := hfo.1
    clear hft hfo hfs
    go_wp2_with fail
    have hbl := below_one w2 (.cells #[.int .i64 0, .slice A1 l1.length c1, .slice none 0 0] 52)
    have HB3 := Lib.hid (below_from HB2.out hbl)
    have hrow := opRow_one (heap_alloc_new w2 _) hlc1 (HR1.out.below HB3.out)
    refine (fits_tree (some ⟨w2.heap.size, 0, none⟩) 1 [(0, l1, [])] _ hrow (by simp) ?_).mono ?_
    · intro o ho
      rw [List.mem_singleton.1 ho]
      exact ⟨by show l1.length ≤ _; omega, by simp, fun x hx => ⟨by have := (HG1.out x hx).1; omega, HL1.out x hx⟩⟩
    rintro e w3 ⟨rfl, hb3⟩
    have HB4 := Lib.hid (below_from HB3.out hb3)
    clear hb3 hrow hbl
    cases hft : fitT [(0, l1, [])] with
    | false =>
      go_wp2_with fail
      go_ret
      exact ⟨rfl, HB4.out⟩
    | true =>
      have F1 := fits1_of hft (o := (0, l1, [])) (by simp) HG1.out
      have hn1 : l1.length ≤ 80 := F1.len
      have HF1 := Lib.hid F1.good
      clear F1 hft
      go_wp2_with fail
      refine (new_tree w3).mono ?_
      rintro e w4 ⟨g, b, rfl, ht4, hb4⟩
      have HT4 := Lib.hid ht4
      have HB5 := Lib.hid (below_from HB4.out hb4)
      have hbs3 : w.heap.size ≤ w3.heap.size := HB4.out.size
      have hbs4 : w3.heap.size ≤ w4.heap.size := hb4.size
      clear ht4 hb4
      go_wp2_with fail
      refine (commit_any g b 0 A1 c1 l1 [] w4 (base := w3.heap.size) (by omega) (fun W hW _ => HR1.out.below (HB5.out.trans (hW.mono hbs3))) HF1.out (fun f hf => by cases hf) (by simp) (by omega) HT4.out hbs4 (HG.out.below HB5.out)).mono ?_
      intro e w5 hp
      rcases hp with ⟨_, t, v, rfl, _, ht5, hb5⟩ | ⟨hc, F1, he, hpu, ht5, hb5, hf5⟩
      · have HT5 := Lib.hid ht5
        have HB6 := Lib.hid (below_from HB5.out hb5)
        clear ht5 hb5
        go_wp2_with fail
        refine (now_any g b 0 [] w5 HT5.out).mono ?_
        rintro e w6 ⟨rfl, rfl⟩
        go_wp2_with fail
        go_ret
        exact ⟨rfl, HB6.out⟩
      · have he' : e = .returned (.tuple #[.int .i64 1, .nilIface]) := he
        subst he'
        have hm5 : mapN F1 ≤ 80 := by
          have := (puts_size hpu HT4.out.once).1
          have h0 : mapN ([] : List FileS) = 0 := rfl
          omega
        have hri5 : RiseF (1 : Nat) F1 := (rise_puts hpu (rise_none _) (chkT_once hc).1).1
        have ht5' : TreeAt w5 w3.heap.size g b 1 F1 := ht5
        have HT5 := Lib.hid ht5'
        have HRI := Lib.hid hri5
        have HB6 := Lib.hid (HB5.out.trans (hb5.mono hbs3))
        have hbs5 : w3.heap.size ≤ w5.heap.size := Nat.le_trans hbs4 hb5.size
        clear ht5 ht5' hb5 hf5 hc hpu he hri5
        go_wp2_with fail
        obtain ⟨L, hL⟩ : ∃ L, (listT 1 F1 1 ⟨#[]⟩).1 = L := ⟨_, rfl⟩
        refine (list_text g b 1 1 ⟨#[]⟩ F1 L w5 (by decide) (by omega) HT5.out (by omega) (by omega) hL).mono ?_
        rintro e w6 ⟨Al, cl, rfl, hlc, hln, hlr, ho6, hb6⟩
        have HL := Lib.hid hL
        have HLR := Lib.hid hlr
        have HO6 := Lib.hid ho6
        have HT6 := Lib.hid (HT5.out.below hb6)
        have HB7 := Lib.hid (below_from HB6.out hb6)
        have hbs6 : w3.heap.size ≤ w6.heap.size := Nat.le_trans hbs5 hb6.size
        have hs56 : w5.heap.size ≤ w6.heap.size := hb6.size
        have hwl : (wasT 1 F1 1 L).length = L.length := by simp [wasT]
        have HWL := Lib.hid hwl
        obtain ⟨j0, hj0, hjz0, hjz1, hjz2⟩ := info_parts infoTxt
        clear hL hlr ho6 hb6 hwl
        go_wp2_with fail
        go_loopw [10, 61] (fun lv i wr => ∃ k : Nat, k ≤ L.length ∧ i = .int .i64 k ∧ wr.ownsRow w6.heap.size 9 1 lv ((wasT 1 F1 1 L).take k).length (strs ((wasT 1 F1 1 L).take k)) ∧ Below w6.heap.size w6 wr) (fun _ i _ => L.length - (intOf i).toNat)
        case atStart => exact ⟨0, by omega, rfl, ⟨rfl, .inl ⟨rfl, rfl⟩⟩, Below.refl _ _⟩
        case round =>
          obtain ⟨k, hk, rfl, hol, hbr⟩ := hrel
          have HOL := Lib.hid hol
          have HBR := Lib.hid hbr
          have hszr := hbr.size
          clear hol hbr
          by_cases hlt : k < L.length
          · obtain ⟨ad, rfl, htx⟩ := (HLR.out.below HBR.out) (by omega)
            obtain ⟨p, hp⟩ : ∃ p, p = L[k] := ⟨_, rfl⟩
            have x1 := htx k hlt
            rw [← hp] at x1
            have hpL : p ∈ (listT 1 F1 1 ⟨#[]⟩).1 := by rw [HL.out, hp]; exact List.getElem_mem hlt
            have hrd : readT 1 F1 1 p = (dataT 1 F1 1 p, 0) := data_there hpL
            have hps := path_small HT6.out (list_there hpL).1
            have htk : (wasT 1 F1 1 L).take (k + 1) = (wasT 1 F1 1 L).take k ++ [strOfNums (dataT 1 F1 1 p)] := by
              rw [List.take_succ_eq_append_getElem (by rw [HWL.out]; exact hlt)]
              simp [wasT, hp]
            have HTK := Lib.hid htk
            have hkl : ((wasT 1 F1 1 L).take k).length ≤ 90000 := by rw [List.length_take]; omega
            have HRD := Lib.hid hrd
            clear htx hp hpL hrd htk
            go_wp2_with fail
            refine (read_text g b 1 1 p F1 (dataT 1 F1 1 p) 0 wr hps (by omega) (HT6.out.below HBR.out) HRD.out).mono ?_
            rintro e w8 ⟨Ar, cr, rfl, hcv, _, hb8⟩
            have cv1 := hcv w8 (Below.refl _ _)
            have HB8 := Lib.hid (below_from HBR.out hb8)
            have HOL8 := Lib.hid (own_stay HOL.out hb8)
            have hsz8 := HB8.out.size
            clear hcv hb8
            go_wp2_with (at_builtin; go_loud (refine wpList_append_own _ rfl (.tmp 72) (.tmp 75) 22 rfl w6.heap.size 9 j0 (.string ⟨#[]⟩) 1 16 Tryd.underlying22 hj0 hjz0 hjz1 hjz2 rfl (by decide) u10 ((wasT 1 F1 1 L).take k).length (strs ((wasT 1 F1 1 L).take k)) (by simp [Act.eval, Act.put]) (own_stay HOL8.out (below_one _ _)) ⟨w8.heap.size, 0, none⟩ 1 1 [.string (strOfNums (dataT 1 F1 1 p))] (by simp [Act.eval, Act.put]) rfl (cell_one_new _ _ _) (fun u hu => by (simp at hu; subst hu; rfl)) (by unfold maxLen; omega) (by omega) (by simp; omega) ?_); intro v9 w9 hown9 hg9 _)
            have hbn := below_one w8 (.cells #[.string (strOfNums (dataT 1 F1 1 p))] 9)
            have HB9 := Lib.hid ((below_from HB8.out hbn).grown hg9 (below_from HB8.out hbn).size (fun k hk => (HOL8.out.lt k hk).1))
            have HOL9 := Lib.hid hown9
            clear hown9 hg9 hbn
            go_wp2_with fail
            go_roundw
            case rel => exact ⟨k + 1, by omega, by go_num, by rw [HTK.out]; simpa [strs] using HOL9.out, HB9.out⟩
            case measure => simp [intOf]; omega
          · obtain rfl : k = L.length := by omega
            obtain ⟨W0, rfl⟩ : ∃ W0, W0 = wr := ⟨wr, rfl⟩
            have htw : (wasT 1 F1 1 L).take L.length = wasT 1 F1 1 L := List.take_of_length_le (Nat.le_of_eq HWL.out)
            have how := HOL.out
            rw [htw] at how
            obtain ⟨Aw, cw, rfl, hwc, hwr⟩ := own_row how
            have HST : Hid (StayAt w w3.heap.size g b F1 Al Aw cl cw L (wasT 1 F1 1 L) 0 1 F1 W0) := Lib.hid ⟨HT6.out.below HBR.out, by omega, by omega, HRI.out, Shows.refl _ _ _, own_mono (own_stay HO6.out HBR.out) hbs5, own_mono how hbs6, below_from HB7.out HBR.out, Nat.le_trans hbs6 hszr⟩
            clear htw how hwr
            go_wp2_with fail
            go_loopw [80] (fun i wr => ∃ (k now' : Nat) (F' : List FileS), k ≤ sc.length ∧ i = .int .i64 k ∧ StayAt w w3.heap.size g b F1 Al Aw cl cw L (wasT 1 F1 1 L) k now' F' wr) (fun i _ => sc.length - (intOf i).toNat)
            case atStart => exact ⟨0, 1, F1, by omega, rfl, HST.out⟩
            case round =>
              obtain ⟨k, now', F', hk, rfl, hst⟩ := hrel
              have HS := Lib.hid hst
              clear hst
              by_cases hlt : k < sc.length
              · obtain ⟨bb, off, A3, c3, A4, c4, rfl, x1, x2, x3, x4, x5, x6, x7⟩ := HR2.out k hlt
                obtain ⟨o, ho⟩ : ∃ o, o = sc[k] := ⟨_, rfl⟩
                have hfo := HFS.out o (ho ▸ List.getElem_mem hlt)
                rw [← ho] at x1 x2 x3 x4 x5 x6 x7
                clear ho
                obtain ⟨kd, cs, kp⟩ := o
                simp only at x1 x2 x3 x4 x5 x6 x7 hfo
                replace x1 := cell_below HS.out.below x1
                replace x2 := cell_below HS.out.below x2
                replace x3 := cell_below HS.out.below x3
                have HCR := Lib.hid x5
                have HKR := Lib.hid x7
                have hcs80 : cs.length ≤ 80 := hfo.1.len
                have hkp20 : kp.length ≤ 20 := hfo.2
                have HGC := Lib.hid hfo.1.good
                have hbo := below_one wr (.cells #[.int .i64 kd, .slice A3 cs.length c3, .slice A4 kp.length c4] 52)
                have HOB : Hid ((wr.alloc (.cells #[.int .i64 kd, .slice A3 cs.length c3, .slice A4 kp.length c4] 52)).heap[wr.heap.size]? = some (.cells #[.int .i64 kd, .slice A3 cs.length c3, .slice A4 kp.length c4] 52 (0, 0))) := Lib.hid (heap_alloc_new wr _)
                have HS1 := Lib.hid (HS.out.stay hbo)
                clear x5 x7 hfo hbo
                go_upto_if 86 with fail
                generalize hW1 : wr.alloc (.cells #[.int .i64 kd, .slice A3 cs.length c3, .slice A4 kp.length c4] 52) = W1 at *
                have y2 : W1.cell? ⟨wr.heap.size, 1, none⟩ = some (.slice A3 cs.length c3) := by simp [World.cell?, HOB.out]
                have y3 : W1.cell? ⟨wr.heap.size, 2, none⟩ = some (.slice A4 kp.length c4) := by simp [World.cell?, HOB.out]
                have hbs := HS1.out.base
                go_cut [6] from 86 to 99 (fun sv wc => sv = .int .i64 1 ∧ ∃ (now2 : Nat) (F2 : List FileS), StayAt w w3.heap.size g b F1 Al Aw cl cw L (wasT 1 F1 1 L) (k + 1) now2 F2 wc)
                case first =>
                  by_cases hkd : kd = 1
                  · subst hkd
                    obtain ⟨i0, hi0, hz0, hz1, hz2⟩ := info_parts infoInt
                    have HKP1 := Lib.hid (HKR.out.below HS1.out.below)
                    have y3' : (W1.alloc (.cells #[] 3)).cell? ⟨wr.heap.size, 2, none⟩ = some (.slice A4 kp.length c4) := cell_below (below_one W1 _) y3
                    go_wp2_with (first
                      | (at_builtin; refine wpList_append_ints rfl (.tmp 88) (.tmp 90) rfl A4 c4 kp (by simp [Act.eval, Act.put]) (by simp [Act.eval, Act.put]) HKP1.out (by omega) ?_; intro vk w8 hok hbk; have HOK := Lib.hid hok; have HBK := Lib.hid hbk; have hszk := hbk.size; clear hok hbk)
                      | (at_builtin; go_loud (refine wpList_append_own _ rfl (.tmp 91) (.tmp 93) 50 rfl W1.heap.size 3 i0 (.int .i64 0) 1 8 Tryd.underlying50 hi0 hz0 hz1 hz2 rfl (by decide) vk kp.length (i64V kp) (by simp [Act.eval, Act.put]) (own_stay HOK.out (below_one _ _)) ⟨w8.heap.size, 0, none⟩ 1 1 [.int .i64 1] (by simp [Act.eval, Act.put]) rfl (cell_one_new _ _ _) (fun u hu => by (simp at hu; subst hu; rfl)) (by unfold maxLen; omega) (by omega) (by simp; omega) ?_); intro v9 w9 hown9 hg9 _))
                    have hbn := below_one w8 (.cells #[.int .i64 1] 3)
                    have hb9 : Below W1.heap.size W1 w9 := (below_from HBK.out hbn).grown hg9 (below_from HBK.out hbn).size (fun k hk => (HOK.out.lt k hk).1)
                    have HS9 := Lib.hid (HS1.out.stay hb9)
                    have hkl : (kp ++ [(1 : Int)]).length = kp.length + 1 := by simp
                    have ho9 : w9.ownsRow W1.heap.size 3 1 v9 (kp ++ [(1 : Int)]).length (i64V (kp ++ [1])) := by rw [hkl]; simpa [i64V] using hown9
                    obtain ⟨A9, c9, rfl, hc9, hr9⟩ := own_intRow ho9
                    have hsm := HS9.out.tree.small (m := 90000) (by have := HS9.out.size; omega)
                    have HSM := Lib.hid hsm
                    have HR9 := Lib.hid hr9
                    have hnow9 := HS9.out.nows
                    clear hown9 hg9 hbn hb9 ho9 hr9 hsm
                    refine (forget_any g b now' A9 c9 (kp ++ [1]) F' w9 (base := w3.heap.size) (by rw [hkl]; omega) HR9.out HSM.out.2 HSM.out.1 HS9.out.rise (by omega) HS9.out.tree HS9.out.base).mono ?_
                    rintro e w10 ⟨F2, n2, rfl, hn2, hf2, ht2, hg2⟩
                    have HS10 := Lib.hid (HS9.out.forget ht2 hn2 hf2 hg2 (by simp) hbs3)
                    clear hn2 hf2 ht2 hg2
                    go_wp2_with fail
                    go_meet
                    case rel => exact ⟨rfl, _, _, HS10.out⟩
                  · have d1 : (kd == 1) = false := by simpa using hkd
                    have hsm := HS1.out.tree.small (m := 90000) (by have := HS1.out.size; omega)
                    have HSM := Lib.hid hsm
                    have hnow9 := HS1.out.nows
                    clear hsm
                    go_wp2_with fail
                    refine (commit_any g b now' A3 c3 cs F' W1 (base := w3.heap.size) (by omega) (fun W hW _ => HCR.out.below (HS1.out.below.trans (hW.mono hbs3))) HGC.out HSM.out.2 HSM.out.1 (by omega) HS1.out.tree HS1.out.base (HG.out.below HS1.out.below)).mono ?_
                    intro e w10 hp
                    obtain ⟨u1, u2, now2, F2, rfl, hm, hsh⟩ := commit_shows hp HS1.out.tree HS1.out.rise HS1.out.base
                    have HS10 := Lib.hid (HS1.out.commit hm hcs80 hsh hbs3)
                    clear hp hm hsh
                    go_wp2_with fail
                    go_meet
                    case rel => exact ⟨rfl, _, _, HS10.out⟩
                case rest =>
                  obtain ⟨rfl, now2, F2, hst⟩ := hcut
                  have HS2 := Lib.hid hst
                  have hsz2 := HS2.out.size
                  have hnow2 := HS2.out.nows
                  clear hst
                  go_wp2_with fail
                  refine (list_text g b now2 1 ⟨#[]⟩ F2 L wc (by decide) (by omega) HS2.out.tree (by omega) (by omega) (by rw [HS2.out.shows.list]; exact HL.out)).mono ?_
                  rintro e w11 ⟨An, cn, rfl, hnc, hnl, hnr, _, hb11⟩
                  have HS11 := Lib.hid (HS2.out.stay hb11)
                  have HNR := Lib.hid hnr
                  clear hnr hb11
                  go_wp2_with fail
                  refine (same_any An Al cn cl L L w11 HNR.out (texts_row HS11.out.list) (by omega) (by omega)).mono ?_
                  rw [decide_eq_true rfl]
                  rintro e w12 ⟨rfl, hb12⟩
                  have HS12 := Lib.hid (HS11.out.stay hb12)
                  have HLR12 := Lib.hid (texts_row HS12.out.list)
                  have HWR12 := Lib.hid (texts_row HS12.out.was)
                  clear hb12
                  go_wp2_with fail
                  go_loopw [112] (fun i wv => ∃ j : Nat, j ≤ L.length ∧ i = .int .i64 j ∧ Below w12.heap.size w12 wv) (fun i _ => L.length - (intOf i).toNat)
                  case atStart => exact ⟨0, by omega, rfl, Below.refl _ _⟩
                  case round =>
                    obtain ⟨j, hj, rfl, hbv⟩ := hrel
                    obtain ⟨wv, rfl⟩ : ∃ W, W = wr := ⟨wr, rfl⟩
                    have HBV := Lib.hid hbv
                    clear hbv
                    by_cases hjl : j < L.length
                    · obtain ⟨ad, rfl, htx⟩ := (HLR12.out.below HBV.out) (by omega)
                      obtain ⟨p, hp⟩ : ∃ p, p = L[j] := ⟨_, rfl⟩
                      have x1 := htx j hjl
                      rw [← hp] at x1
                      have hpL : p ∈ (listT 1 F1 1 ⟨#[]⟩).1 := by rw [HL.out, hp]; exact List.getElem_mem hjl
                      have hrd : readT now2 F2 1 p = (dataT 1 F1 1 p, 0) := by rw [HS2.out.shows.read]; exact data_there hpL
                      have hps := path_small HT6.out (list_there hpL).1
                      have hjw : j < (wasT 1 F1 1 L).length := by rw [HWL.out]; exact hjl
                      have hwj : (wasT 1 F1 1 L)[j] = strOfNums (dataT 1 F1 1 p) := by simp [wasT, hp]
                      have HWJ := Lib.hid hwj
                      have HRD := Lib.hid hrd
                      clear htx hp hpL hrd hwj
                      go_wp2_with fail
                      refine (read_text g b now2 1 p F2 (dataT 1 F1 1 p) 0 wv hps (by omega) ((HS12.out.stay HBV.out).tree) HRD.out).mono ?_
                      rintro e w13 ⟨Ar, cr, rfl, hcv, _, hb13⟩
                      have cv1 := fun n => hcv (w13.drewN n) (below_drewN (Below.refl _ _) n)
                      have HB13 := Lib.hid (below_from HBV.out hb13)
                      obtain ⟨ad2, rfl, hwx⟩ := (HWR12.out.below HB13.out) (by rw [HWL.out]; omega)
                      have x2 := hwx j hjw
                      rw [HWJ.out] at x2
                      clear hcv hb13 hwx
                      go_wp2_with fail
                      go_quiet (fail)
                      go_wp2_with fail
                      go_roundw
                      case rel => exact ⟨j + 1, by omega, by go_num, below_drewN HB13.out _⟩
                      case measure => simp [intOf]; omega
                    · go_wp2_with fail
                      go_roundw
                      case rel => exact ⟨k + 1, now2, F2, by omega, by go_num, HS12.out.stay HBV.out⟩
                      case measure => simp [intOf]; omega
              · go_wp2_with fail
                go_ret
                exact ⟨rfl, HS.out.below⟩
end Go.Proofs.YtmamkegcnacbbaaDoor
