/-
  The law TreeCounts, walked.
-/
import Derived.Test.YtmamkegcnacbbaaDoorTreeCountsP
import Derived.Test.YtmamkegcnacbbaaDoorTreeBytes
import Derived.Deep.CutBlock
import Derived.Outline
set_option linter.unusedVariables false
set_option linter.unusedSimpArgs false
namespace Go.Proofs.YtmamkegcnacbbaaDoor
open Go.RowKit Go.Maps Go.WideMaps Go.WideAt
open Go.Proofs.YtmamkegcnacbbaaDoorW.PrintWords (Kd ReadsRow)
theorem zeroInt (w : World) : (zeroValue 3).run Tryd.prog w = .ok (.int .i64 0) w := by kernel_rfl
/-- Counts by first segments. -/
structure TopsIn (m : Lit → Option Value) (l : List ByteArray) (k : Nat) : Prop where
  keys : ∀ q, (m (keyS q)).isSome = true ↔ q ∈ topsL l
  nums : ∀ kl v, m kl = some v → ∃ n : Nat, v = .int .i64 n ∧ n ≤ k
theorem tops_none : TopsIn (fun _ => none) [] 0 := ⟨fun q => by simp [topsL], fun kl v h => by cases h⟩
theorem topsL_snoc {l : List ByteArray} {p q : ByteArray} : q ∈ topsL (l ++ [p]) ↔ q ∈ topsL l ∨ q = topB p := by
  rw [topsL_mem, topsL_mem]
  constructor
  · rintro ⟨x, hx, e⟩
    rcases List.mem_append.1 hx with hx | hx
    · exact .inl ⟨x, hx, e⟩
    · rw [List.mem_singleton.1 hx] at e
      exact .inr e.symm
  · rintro (⟨x, hx, e⟩ | e)
    · exact ⟨x, List.mem_append_left _ hx, e⟩
    · exact ⟨p, by simp, e.symm⟩
theorem TopsIn.put {m : Lit → Option Value} {l : List ByteArray} {k n : Nat} (h : TopsIn m l k) (p : ByteArray) (hn : n ≤ k + 1) : TopsIn (upd m (keyS (topB p)) (.int .i64 n)) (l ++ [p]) (k + 1) := by
  refine ⟨fun q => ?_, fun kl v hv => ?_⟩
  · rw [topsL_snoc]
    by_cases e : q = topB p
    · subst e
      rw [upd_same (kl := keyS (topB p)) trivial]
      simp
    · rw [upd_other (keyS_ne e), h.keys q]
      simp [e]
  · unfold upd at hv
    split at hv
    · injection hv with hv
      exact ⟨n, hv.symm, hn⟩
    · obtain ⟨n', e, hle⟩ := h.nums kl v hv
      exact ⟨n', e, by omega⟩
theorem TopsIn.look {m : Lit → Option Value} {l : List ByteArray} {k : Nat} (h : TopsIn m l k) (kl : Lit) : ∃ n : Nat, (m kl).getD (.int .i64 0) = .int .i64 n ∧ n ≤ k := by
  cases hm : m kl with
  | none => exact ⟨0, rfl, by omega⟩
  | some v =>
    obtain ⟨n, e, hle⟩ := h.nums kl v hm
    exact ⟨n, by rw [e]; rfl, hle⟩
/-- Of those roots that have come. -/
def partS (F : List FileS) (f : ByteArray → Nat) (T : List ByteArray) (left : Lit → Bool) : Nat := ((cameL T (fun _ => true) left).map (cntR F 1 1 f)).sum
theorem sum_filter_le (g : ByteArray → Nat) (c : ByteArray → Bool) : ∀ l : List ByteArray, ((l.filter c).map g).sum ≤ (l.map g).sum
  | [] => Nat.le_refl _
  | a :: r => by
    have ih := sum_filter_le g c r
    rw [List.filter_cons]
    split
    · simp only [List.map_cons, List.sum_cons]; omega
    · simp only [List.map_cons, List.sum_cons]; omega
theorem partS_le (F : List FileS) (f : ByteArray → Nat) (T : List ByteArray) (left : Lit → Bool) : partS F f T left ≤ (T.map (cntR F 1 1 f)).sum := by
  unfold partS cameL
  exact Nat.le_trans (sum_filter_le _ _ _) (sum_filter_le _ _ _)
theorem partS_start {F : List FileS} {f : ByteArray → Nat} {T : List ByteArray} {left : Lit → Bool} (h : ∀ p ∈ T, left (keyS p) = true) : partS F f T left = 0 := by
  unfold partS
  rw [came_start h]
  rfl
theorem partS_end {F : List FileS} {f : ByteArray → Nat} {T : List ByteArray} {left : Lit → Bool} (h : ∀ kl, left kl = false) : partS F f T left = (T.map (cntR F 1 1 f)).sum := by
  unfold partS
  rw [came_end h, List.filter_eq_self.2 (fun _ _ => rfl)]
theorem partS_next {F : List FileS} {f : ByteArray → Nat} {T : List ByteArray} {left : Lit → Bool} (hn : T.Nodup) {x : ByteArray} (hx : x ∈ T) (hl : left (keyS x) = true) : partS F f T (fun z => left z && !z.sameKey (keyS x)) = partS F f T left + cntR F 1 1 f x := by
  unfold partS
  have := sum_perm ((came_good hn hx hl (good := fun _ => true) rfl).map (cntR F 1 1 f))
  rw [this]
  simp
theorem top_extract (p : ByteArray) : p.extract 0 (headSeg p.data.toList).length = topB p := by
  apply ba_ext
  rw [topB_data, Lib.extract_data]
  simp [headSeg_take]
set_option maxRecDepth 100000 in
set_option maxHeartbeats 16000000 in
theorem treeCounts_walk (v1 : Value) (l1 : List ChgD) (w : World) (hv1 : SliceArg kChg w v1 l1) (hg1 : ∀ x ∈ l1, ChgArg x) (hg : EnvM w) :
    Calls Tryd.prog 9 #[v1] w fun e w' => e = .returned (.bool true) ∧ Below w.heap.size w w' := by
  obtain ⟨A1, c1, rfl, hlc1, hcm1, hC1⟩ := hv1
  have hmx : (maxLen : Nat) = 9223372036854775807 := rfl
  have HK := Lib.hid (grows_any w hg)
  have HG := Lib.hid hg
  have HR1 := Lib.hid (chgRow_of hC1)
  have HL1 := Lib.hid (chgLen_of hC1)
  have HG1 := Lib.hid hg1
  clear hC1 hg1 hg
  go_enter Tryd.func9, Tryd.ntmps9
  go_wp2_with fail
  refine HK.out.mono ?_
  rintro e w1 ⟨rfl, hb1⟩
  have HB1 := Lib.hid hb1
  clear hb1
  go_wp2_with fail
  have hbl := below_one w1 (.cells #[.int .i64 0, .slice A1 l1.length c1, .slice none 0 0] 52)
  have HB2 := Lib.hid (below_from HB1.out hbl)
  have hrow := opRow_one (heap_alloc_new w1 _) hlc1 (HR1.out.below HB2.out)
  refine (fits_tree (some ⟨w1.heap.size, 0, none⟩) 1 [(0, l1, [])] _ hrow (by simp) ?_).mono ?_
  · intro o ho
    rw [List.mem_singleton.1 ho]
    exact ⟨by show l1.length ≤ _; omega, by simp, fun x hx => ⟨by have := (HG1.out x hx).1; omega, HL1.out x hx⟩⟩
  rintro e w2 ⟨rfl, hb2⟩
  have HB3 := Lib.hid (below_from HB2.out hb2)
  clear hb2 hrow hbl
  cases hft : fitT [(0, l1, [])] with
  | false =>
    go_wp2_with fail
    go_ret
    exact ⟨rfl, HB3.out⟩
  | true =>
    have F1 := fits1_of hft (o := (0, l1, [])) (by simp) HG1.out
    have hn1 : l1.length ≤ 80 := F1.len
    have HF1 := Lib.hid F1.good
    clear F1 hft
    go_wp2_with fail
    refine (new_tree w2).mono ?_
    rintro e w3 ⟨g, b, rfl, ht3, hb3⟩
    have HT3 := Lib.hid ht3
    have HB4 := Lib.hid (below_from HB3.out hb3)
    have hw2 : w.heap.size ≤ w2.heap.size := HB3.out.size
    have hw3 : w2.heap.size ≤ w3.heap.size := hb3.size
    clear ht3 hb3
    go_wp2_with fail
    refine (commit_any g b 0 A1 c1 l1 [] w3 (base := w2.heap.size) (by omega) (fun W hW _ => HR1.out.below (HB4.out.trans (hW.mono hw2))) HF1.out (fun f hf => by cases hf) (by simp) (by omega) HT3.out hw3 (HG.out.below HB4.out)).mono ?_
    intro e w4 hp
    rcases hp with ⟨_, t, v, rfl, _, ht4, hb4⟩ | ⟨hc, F1, he, hpu, ht4, hb4, hf4⟩
    · have HT4 := Lib.hid ht4
      have HB5 := Lib.hid (below_from HB4.out hb4)
      clear ht4 hb4
      go_wp2_with fail
      refine (now_any g b 0 [] w4 HT4.out).mono ?_
      rintro e w5 ⟨rfl, rfl⟩
      go_wp2_with fail
      refine (bytes_any g b 0 0 ⟨#[]⟩ [] w5 (by decide) (by simp [mapN]) HT4.out).mono ?_
      have e0 : sumL (lenAt [] 0) (listT 0 [] 0 ⟨#[]⟩).1 = 0 := by rw [listT, if_neg (by omega)]; simp [sortB, sumL]
      rw [e0]
      rintro e w6 ⟨rfl, hb6⟩
      have HB6 := Lib.hid (below_from HB5.out hb6)
      clear hb6 e0
      go_wp2_with fail
      go_ret
      exact ⟨rfl, HB6.out⟩
    · have he' : e = .returned (.tuple #[.int .i64 1, .nilIface]) := he
      subst he'
      have hm4 : mapN F1 ≤ 80 := by
        have := (puts_size hpu HT3.out.once).1
        have h0 : mapN ([] : List FileS) = 0 := rfl
        omega
      have ht4' : TreeAt w4 w2.heap.size g b 1 F1 := ht4
      have HT4 := Lib.hid ht4'
      have hck : ∀ p ∈ F1.map FileS.path, checkB p = none := fun p hp => by
        obtain ⟨f, hf, rfl⟩ := List.mem_map.1 hp
        rcases puts_paths hpu f hf with h | h
        · cases h
        · obtain ⟨c, hcl, e⟩ := List.mem_map.1 h
          rw [← e]
          exact (chkT_once hc).2.1 c hcl
      have HCK := Lib.hid hck
      have HB5 := Lib.hid (HB4.out.trans (hb4.mono hw2))
      clear ht4 ht4' hb4 hf4 hc hpu he hck
      go_wp2_with fail
      obtain ⟨L, hL⟩ : ∃ L, (listT 1 F1 1 ⟨#[]⟩).1 = L := ⟨_, rfl⟩
      refine (list_text g b 1 1 ⟨#[]⟩ F1 L w4 (by decide) (by omega) HT4.out (by omega) (by omega) hL).mono ?_
      rintro e w5 ⟨Al, cl, rfl, hlc, hln, hlr, _, hb5⟩
      have HL := Lib.hid hL
      have HLR := Lib.hid hlr
      have HT5 := Lib.hid (HT4.out.below hb5)
      have HB6 := Lib.hid (below_from HB5.out hb5)
      have hmm := @run_makeMap Tryd.prog
      have HM0 := Lib.hid (mapAs_new w5 Tryd.prog 9)
      have HBM := Lib.hid (below_one w5 (.map #[] 0))
      have hall : ∀ p ∈ L, readT 1 F1 1 p = ((readT 1 F1 1 p).1, 0) ∧ p.size ≤ 64 := fun p hp => by
        rw [← hL] at hp
        obtain ⟨h1, d, h2⟩ := list_there hp
        obtain ⟨f, hf, rfl⟩ := List.mem_map.1 h1
        exact ⟨by rw [h2], (HT4.out.files f hf).2.2.2⟩
      have HALL := Lib.hid hall
      have hsl : ∀ k, sumL (lenAt F1 1) (L.take k) ≤ 27000000000 := fun k => by
        have hle := sumL_le (l := L.take k) (f := lenAt F1 1) (m := 300000) (fun q _ => lenAt_le HT4.out 1 q)
        have hlen : (L.take k).length ≤ 90000 := by rw [List.length_take]; omega
        exact Nat.le_trans hle (Nat.mul_le_mul_right 300000 hlen)
      have HSL := Lib.hid hsl
      clear hL hlr hb5 hall hsl
      go_wp2_with fail
      go_loopw [9, 57] (fun bv i wr => ∃ (k : Nat) (m : Lit → Option Value), k ≤ L.length ∧ i = .int .i64 k ∧ bv = .int .i64 ((sumL (lenAt F1 1) (L.take k) : Nat) : Int) ∧ MapAs wr Tryd.prog 9 w5.heap.size k m ∧ TopsIn m (L.take k) k ∧ Below w5.heap.size w5 wr) (fun _ i _ => L.length - (intOf i).toNat)
      case atStart => exact ⟨0, _, by omega, rfl, by simp [sumL], HM0.out, tops_none, HBM.out⟩
      case round =>
        obtain ⟨k, m, hk, rfl, rfl, hms, htp, hbr⟩ := hrel
        have HMS := Lib.hid hms
        have HTP := Lib.hid htp
        have HBR := Lib.hid hbr
        have hszr := hbr.size
        have hmlt := hms.lt
        have hs1 := HSL.out k
        obtain ⟨sm, hsm⟩ : ∃ sm, sm = sumL (lenAt F1 1) (L.take k) := ⟨_, rfl⟩
        rw [← hsm] at hs1 ⊢
        have HSM := Lib.hid hsm
        clear hms htp hbr hsm
        by_cases hlt : k < L.length
        · obtain ⟨ad, rfl, htx⟩ := (HLR.out.below HBR.out) (by omega)
          obtain ⟨p, hp⟩ : ∃ p, p = L[k] := ⟨_, rfl⟩
          have x1 := htx k hlt
          rw [← hp] at x1
          obtain ⟨hrd, hps⟩ := HALL.out p (hp ▸ List.getElem_mem hlt)
          obtain ⟨d, hd⟩ : ∃ d, d = (readT 1 F1 1 p).1 := ⟨_, rfl⟩
          rw [← hd] at hrd
          have htk : L.take (k + 1) = L.take k ++ [p] := by rw [List.take_succ_eq_append_getElem hlt, hp]
          have hsk : sumL (lenAt F1 1) (L.take (k + 1)) = sm + d.length := by rw [htk, sumL_snoc, ← HSM.out, read_len hrd]
          have hs2 := HSL.out (k + 1)
          rw [hsk] at hs2
          have HRD := Lib.hid hrd
          have HTK := Lib.hid htk
          have HSK := Lib.hid hsk
          clear htx hp hd hrd htk hsk
          go_upto_block 2 with fail
          go_cut [12] from 64 to 74 (fun tv wc => tv = .string (topB p) ∧ wc = wr)
          case first =>
            have hle := headSeg_le p.data.toList
            have hpl : p.data.toList.length = p.size := rfl
            have HIN := Lib.hid (headSeg_in p.data.toList)
            have HEND := Lib.hid (headSeg_end p.data.toList)
            have HTX := Lib.hid (top_extract p)
            obtain ⟨h, hh⟩ : ∃ h, h = (headSeg p.data.toList).length := ⟨_, rfl⟩
            rw [← hh, hpl] at hle
            have HH := Lib.hid hh
            clear hh hpl
            go_wp2_with fail
            go_loop [12, 64] (fun tv i => ∃ j : Nat, j ≤ h ∧ i = .int .i64 j ∧ tv = .string p) (fun _ i => p.size - (intOf i).toNat)
            case atStart => exact ⟨0, by omega, rfl, rfl⟩
            case round =>
              obtain ⟨j, hj, rfl, rfl⟩ := hrel
              by_cases hjp : j < p.size
              · by_cases hjh : j < h
                · have hne : p[j] ≠ 47 := HIN.out j (by rw [← HH.out]; exact hjh) hjp
                  have d1 : ((p[j].toNat : Int) == 47) = false := by
                    rw [beq_eq_false_iff_ne]
                    intro e
                    exact hne (UInt8.toNat_inj.1 (by show p[j].toNat = 47; omega))
                  clear hne
                  go_wp2_with fail
                  go_round
                  case rel => exact ⟨j + 1, by omega, by go_num, rfl⟩
                  case measure => simp [intOf]; omega
                · obtain rfl : j = h := by omega
                  have hlt2 : (headSeg p.data.toList).length < p.data.toList.length := by rw [← HH.out]; exact hjp
                  have heq : p[j] = 47 := by
                    have e1 := HEND.out hlt2
                    have e2 : p[j] = p.data.toList[(headSeg p.data.toList).length] := by
                      have : ∀ k (hk : k < p.size), k = j → p[j] = p.data.toList[k]'hk := fun k hk e => by subst e; rfl
                      exact this _ hlt2 HH.out.symm
                    rw [e2]; exact e1
                  have d1 : ((p[j].toNat : Int) == 47) = true := by rw [heq]; rfl
                  clear heq hlt2
                  go_wp2_with fail
                  go_meet
                  case rel => exact ⟨congrArg Value.string (by rw [HH.out]; exact HTX.out), rfl⟩
              · obtain rfl : j = h := by omega
                have hwh : topB p = p := ba_ext (by rw [topB_data]; exact headSeg_whole _ (by rw [← HH.out]; exact hjp))
                go_wp2_with fail
                go_meet
                case rel => exact ⟨by rw [hwh], rfl⟩
          case rest =>
            obtain ⟨rfl, rfl⟩ := hcut
            have hts : (topB p).size ≤ 64 := by
              have e1 : (topB p).size = (headSeg p.data.toList).length := by rw [← topB_data]; rfl
              have := headSeg_le p.data.toList
              have hpl : p.data.toList.length = p.size := rfl
              omega
            obtain ⟨tp, htp⟩ : ∃ tp, tp = topB p := ⟨_, rfl⟩
            rw [← htp] at hts ⊢
            have HTPB := Lib.hid htp
            have hkey := keyOf_string_mk (P := Tryd.prog) Tryd.underlying9 (s := tp) (by unfold maxLen; omega)
            obtain ⟨n, hn, hnk⟩ := HTP.out.look (keyS tp)
            have hlook := HMS.out.look strKeyed Tryd.underlying69 (zeroInt wc) (key := .string tp) hkey
            have hlook2 : (Instr.lookup 69 (.map (some w5.heap.size)) (.string tp) false).run Tryd.prog wc = .ok (.int .i64 n) wc := by rw [hlook]; exact congrArg (fun v => Result.ok v wc) hn
            obtain ⟨w6, hrun6, hm6, hg6⟩ := HMS.out.store strKeyed Tryd.underlying69 (by unfold maxLen; omega) (key := .string tp) (.int .i64 ((n : Int) + 1)) hkey
            have HM6 := Lib.hid hm6
            have HB6 := Lib.hid (HBR.out.grown hg6 hszr (fun j hj => by cases hj; exact Nat.le_refl _))
            have HTP6 : Hid (TopsIn (upd m (keyS tp) (.int .i64 ((n : Int) + 1))) (L.take (k + 1)) (k + 1)) := Lib.hid (by
              have h := HTP.out.put (n := n + 1) p (by omega)
              rw [← HTPB.out, ← HTK.out] at h
              have e1 : ((n + 1 : Nat) : Int) = (n : Int) + 1 := by omega
              rw [e1] at h
              exact h)
            clear hlook hn hm6 hg6 htp
            go_wp2_with fail
            refine (read_text g b 1 1 p F1 d 0 w6 (by unfold maxLen; omega) (by omega) (HT5.out.below HB6.out) HRD.out).mono ?_
            rintro e w7 ⟨Ar, cr, rfl, _, _, hb7⟩
            have HB7 := Lib.hid (below_from HB6.out hb7)
            have HM7 := Lib.hid (HM6.out.below hb7)
            clear hb7
            go_wp2_with fail
            go_roundw
            case rel => exact ⟨k + 1, _, by omega, by go_num, by rw [HSK.out]; go_num, HM7.out, HTP6.out, HB7.out⟩
            case measure => simp [intOf]; omega
        · obtain rfl : k = L.length := by omega
          obtain ⟨W0, rfl⟩ : ∃ W0, W0 = wr := ⟨wr, rfl⟩
          have htk : L.take L.length = L := List.take_length
          rw [htk] at HTP HSM
          clear htk
          have HTW := Lib.hid (HT5.out.below HBR.out)
          have HBW := Lib.hid (below_from HB6.out HBR.out)
          have HALT := Lib.hid (fun f => tops_all (now := 1) (v := 1) HT5.out.once (by omega) (by omega) HCK.out f)
          go_wp2_with (first | (at_range; go_loud (refine wpList_range_as _ rfl _ 69 rfl 9 3 strKeyed Tryd.underlying69 w5.heap.size L.length m rfl HMS.out ?_); intro w6 left0 cnt0 hrg0 hl0 hg0 hs0) | go_in)
          go_frame
          obtain ⟨T, hT⟩ : ∃ T, T = topsL L := ⟨_, rfl⟩
          have hTn : T.Nodup := by rw [hT]; exact topsL_nodup L
          have HTN := Lib.hid hTn
          have hTk : ∀ q, (m (keyS q)).isSome = true ↔ q ∈ T := fun q => by rw [hT]; exact HTP.out.keys q
          have HTK := Lib.hid hTk
          have hS1 : (T.map (cntR F1 1 1 fun _ => 1)).sum = L.length := by
            have h := HALT.out (fun _ => 1)
            rw [HL.out, ← hT, sumL_count] at h
            exact h
          have hS2 : (T.map (cntR F1 1 1 (lenAt F1 1))).sum = sm := by
            have h := HALT.out (lenAt F1 1)
            rw [HL.out, ← hT] at h
            rw [h, HSM.out]
          have HS1 := Lib.hid hS1
          have HS2 := Lib.hid hS2
          have HTZ : Hid (∀ q ∈ T, q.size ≤ 64) := Lib.hid (fun q hq => by
            rw [hT, topsL_mem] at hq
            obtain ⟨p, hp, rfl⟩ := hq
            have e1 : (topB p).size = (headSeg p.data.toList).length := by rw [← topB_data]; rfl
            have h2 := headSeg_le p.data.toList
            have hpl : p.data.toList.length = p.size := rfl
            have h3 := (HALL.out p hp).2
            omega)
          have HRG0 := Lib.hid hrg0
          have HL0 := Lib.hid hl0
          have HBG0 := Lib.hid (below_of_grown hg0)
          clear hT hTn hTk hS1 hS2 hrg0 hl0 hg0
          go_loopw [16, 17] (fun nv sv wr => ∃ (left : Lit → Bool) (cnt : Nat), RangeAs wr Tryd.prog 9 w5.heap.size W0.heap.size L.length m left cnt ∧ nv = .int .i64 ((partS F1 (fun _ => 1) T left : Nat) : Int) ∧ sv = .int .i64 ((partS F1 (lenAt F1 1) T left : Nat) : Int) ∧ Below W0.heap.size W0 wr) (fun _ _ wr => wr.rangeLeft w5.heap.size W0.heap.size)
          case atStart =>
            have hz : ∀ q ∈ T, left0 (keyS q) = true := fun q hq => (HL0.out (keyS q) trivial).trans ((HTK.out q).2 hq)
            exact ⟨left0, cnt0, HRG0.out, by rw [partS_start hz]; rfl, by rw [partS_start hz]; rfl, HBG0.out⟩
          case round =>
            obtain ⟨left, cnt, hrg, rfl, rfl, hbr⟩ := hrel
            obtain ⟨wq, rfl⟩ : ∃ W, W = wr := ⟨wr, rfl⟩
            have HRG := Lib.hid hrg
            have HBQ := Lib.hid hbr
            have hszq := hbr.size
            clear hrg hbr
            go_wp2_with (first | (at_next; refine wpList_next_as _ rfl _ rfl 9 Tryd.underlying9 strKeyed w5.heap.size W0.heap.size L.length m _ _ rfl HRG.out ?_ ?_) | go_in)
            · intro hnone
              have e1 := partS_end (F := F1) (f := fun _ => 1) (T := T) hnone
              have e2 := partS_end (F := F1) (f := lenAt F1 1) (T := T) hnone
              rw [HS1.out] at e1
              rw [HS2.out] at e2
              rw [e1, e2]
              clear hnone e1 e2
              go_wp2_with fail
              refine (bytes_any g b 1 1 ⟨#[]⟩ F1 wq (by decide) (by omega) (HTW.out.below HBQ.out)).mono ?_
              rw [HL.out, ← HSM.out]
              rintro e w8 ⟨rfl, hb8⟩
              have HB8 := Lib.hid (below_from HBW.out (below_from HBQ.out hb8))
              clear hb8
              go_wp2_with fail
              go_ret
              exact ⟨rfl, HB8.out⟩
            · intro x cv w7 cnt7 hxm hlx hmx hrg7 hlt7 hg7 hs7 hen
              have hxT : x ∈ T := (HTK.out x).1 (by rw [hmx]; rfl)
              have hxs := HTZ.out x hxT
              have e1 := partS_next (F := F1) (f := fun _ => 1) HTN.out hxT hlx
              have e2 := partS_next (F := F1) (f := lenAt F1 1) HTN.out hxT hlx
              have l1 := partS_le F1 (fun _ => 1) T (fun z => left z && !z.sameKey (keyS x))
              have l2 := partS_le F1 (lenAt F1 1) T (fun z => left z && !z.sameKey (keyS x))
              rw [HS1.out, e1] at l1
              rw [HS2.out, e2] at l2
              obtain ⟨n0, hn0⟩ : ∃ n0, n0 = partS F1 (fun _ => 1) T left := ⟨_, rfl⟩
              obtain ⟨s0, hs0⟩ : ∃ s0, s0 = partS F1 (lenAt F1 1) T left := ⟨_, rfl⟩
              rw [← hn0] at e1 l1 ⊢
              rw [← hs0] at e2 l2 ⊢
              have HE1 := Lib.hid e1
              have HE2 := Lib.hid e2
              have hnc := HRG.out.no_cells
              have HB7 := Lib.hid (HBQ.out.grown hg7 hszq (fun j hj => by cases hj; exact Nat.le_refl _))
              have HRG7 := Lib.hid hrg7
              have HLT7 : Hid (cnt7 < wq.rangeLeft w5.heap.size W0.heap.size) := Lib.hid (by rw [HRG.out.left_eq]; exact hlt7)
              obtain ⟨U, hU⟩ : ∃ U, (listT 1 F1 1 x).1 = U := ⟨_, rfl⟩
              have HU := Lib.hid hU
              have hc1 : cntR F1 1 1 (fun _ => 1) x = U.length + (if thereB F1 1 x then 1 else 0) := by rw [cntR, hU, sumL_count]
              have hc2 : cntR F1 1 1 (lenAt F1 1) x = sumL (lenAt F1 1) U + (if thereB F1 1 x then lenAt F1 1 x else 0) := by rw [cntR, hU]
              rw [hc1] at l1
              rw [hc2] at l2
              have HC1 := Lib.hid hc1
              have HC2 := Lib.hid hc2
              clear hlx hmx hrg7 hlt7 hg7 hnc hn0 hs0 e1 e2 hc1 hc2 hxT
              go_wp2_with fail
              refine (list_text g b 1 1 x F1 U w7 (by omega) (by omega) (HTW.out.below HB7.out) (by omega) (by omega) hU).mono ?_
              clear hU
              rintro e w8 ⟨Au, cu, rfl, huc, hul, _, _, hb8⟩
              have HB8 := Lib.hid (below_from HB7.out hb8)
              have HRG8 := Lib.hid (HRG7.out.below hb8)
              clear hb8
              go_wp2_with fail
              refine (bytes_any g b 1 1 x F1 w8 (by omega) (by omega) (HTW.out.below HB8.out)).mono ?_
              rw [HU.out]
              rintro e w9 ⟨rfl, hb9⟩
              have HB9 := Lib.hid (below_from HB8.out hb9)
              have HRG9 := Lib.hid (HRG8.out.below hb9)
              obtain ⟨su, hsu⟩ : ∃ su, su = sumL (lenAt F1 1) U := ⟨_, rfl⟩
              rw [← hsu] at l2 ⊢
              have HSU := Lib.hid hsu
              clear hb9 hsu
              go_wp2_with fail
              cases hth : thereB F1 1 x with
              | false =>
                have hrd := (read_zero (now := 1) (F := F1) (v := 1) (p := x) (by omega) (by omega)).2 hth
                refine (read_text g b 1 1 x F1 [] 4 w9 hxm (by omega) (HTW.out.below HB9.out) hrd).mono ?_
                have HTH := Lib.hid hth
                clear hrd hth
                rintro e w10 ⟨Ar, cr, rfl, _, _, hb10⟩
                have HB10 := Lib.hid (below_from HB9.out hb10)
                have hrg10 := HRG9.out.below hb10
                have HRG10 := Lib.hid hrg10
                have HME : Hid (w10.rangeLeft w5.heap.size W0.heap.size < wq.rangeLeft w5.heap.size W0.heap.size) := Lib.hid (by rw [hrg10.left_eq]; exact HLT7.out)
                clear hb10 hrg10
                go_wp2_with fail
                go_roundw
                case rel => exact ⟨_, cnt7, HRG10.out, by rw [HE1.out, HC1.out, HTH.out]; go_num, by rw [HE2.out, HC2.out, HTH.out, ← HSU.out]; go_num, HB10.out⟩
                case measure => exact HME.out
              | true =>
                obtain ⟨d, hrd⟩ := (read_zero (now := 1) (F := F1) (v := 1) (p := x) (by omega) (by omega)).1 hth
                have hdl := read_len hrd
                rw [hth, hdl] at l2
                rw [hth] at l1
                simp only [if_true] at l1 l2
                refine (read_text g b 1 1 x F1 d 0 w9 hxm (by omega) (HTW.out.below HB9.out) hrd).mono ?_
                have HTH := Lib.hid hth
                have HDL := Lib.hid hdl
                clear hrd hth hdl
                rintro e w10 ⟨Ar, cr, rfl, _, _, hb10⟩
                have HB10 := Lib.hid (below_from HB9.out hb10)
                have hrg10 := HRG9.out.below hb10
                have HRG10 := Lib.hid hrg10
                have HME : Hid (w10.rangeLeft w5.heap.size W0.heap.size < wq.rangeLeft w5.heap.size W0.heap.size) := Lib.hid (by rw [hrg10.left_eq]; exact HLT7.out)
                clear hb10 hrg10
                go_wp2_with fail
                go_roundw
                case rel => exact ⟨_, cnt7, HRG10.out, by rw [HE1.out, HC1.out, HTH.out]; go_num, by rw [HE2.out, HC2.out, HTH.out, ← HSU.out, HDL.out]; go_num, HB10.out⟩
                case measure => exact HME.out
end Go.Proofs.YtmamkegcnacbbaaDoor
