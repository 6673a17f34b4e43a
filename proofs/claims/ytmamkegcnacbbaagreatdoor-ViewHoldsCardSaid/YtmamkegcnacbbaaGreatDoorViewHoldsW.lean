/-
  The law ViewHolds, walked.
-/
import Derived.Test.YtmamkegcnacbbaaGreatDoorViewHoldsP
import Derived.Outline
set_option linter.unusedVariables false
set_option linter.unusedSimpArgs false
namespace Go.Proofs.YtmamkegcnacbbaaGreatDoor
open Go.RowKit Go.Maps Go.WideMaps Go.WideAt
open Go.Proofs.YtmamkegcnacbbaaGreatDoorW.PrintWords (Kd ReadsRow)
theorem opVRow_one {W : World} {B : Nat} {A1 : Option Addr} {c1 : Nat} {l1 : List ChgD} (hb : W.heap[B]? = some (Obj.cells #[.int .i64 0, .int .i64 0, .slice A1 l1.length c1] 37 (0, 0)))
    (h1 : l1.length ≤ c1) (r1 : ChgRow W A1 l1) : OpVRow W (some ⟨B, 0, none⟩) [(0, 0, l1)] := fun k hk =>
  match k, hk with
  | 0, _ => ⟨B, 0, A1, c1, rfl, by simp [World.cell?, hb], by simp [World.cell?, hb], by simp [World.cell?, hb], h1, r1⟩
theorem good_fit {l : List ChgD} (h : fitV [(0, 0, l)] = true) (hg : ∀ x ∈ l, ChgArg x) : l.length ≤ 20 ∧ ∀ x ∈ l, GoodC x := by
  obtain ⟨_, h2, _⟩ := fitV_out h
  obtain ⟨a, b⟩ := h2 (0, 0, l) (by simp)
  exact ⟨a, fun c hc => ⟨by have := (b c hc).1; omega, (hg c hc).2.1, (b c hc).2⟩⟩
theorem good_fits {l : List OpV} (h : fitV l = true) (hg : ∀ x ∈ l, OpVArg x) : ∀ o ∈ l, o.2.2.length ≤ 20 ∧ (Lit.int .i64 o.2.1).wf = true ∧ ∀ x ∈ o.2.2, GoodC x := fun o ho => by
  obtain ⟨_, h2, _⟩ := fitV_out h
  obtain ⟨a, b⟩ := h2 o ho
  exact ⟨a, (hg o ho).2.1, fun c hc => ⟨by have := (b c hc).1; omega, ((hg o ho).2.2 c hc).2.1, (b c hc).2⟩⟩
theorem first_commit {s g b pm : Nat} {l : List ChgD} {base : Nat} {w : World} {e : Ending} {w' : World} (hp : SCommitPost s g b pm 0 l [] [] base w e w') (hbase : base ≤ w.heap.size) :
    ∃ u1 u2 now' F', e = .returned (.tuple #[u1, u2]) ∧ StoreAt w' base s g b pm now' F' [] ∧ RiseF now' F' ∧ ValidT now' F' ∧ mapN F' ≤ l.length ∧ now' ≤ 1 ∧ Below base w w' := by
  rcases hp with ⟨_, t, v, rfl, _, hs, hb⟩ | ⟨hc, B, F1, F', rfl, hpu, hfo, hsz, hs, hb, _⟩
  · exact ⟨_, _, 0, [], rfl, hs, rise_none _, valid_none, by simp [mapN], by omega, hb.mono hbase⟩
  · have hr1 : RiseF ((0 + 1 : Nat) : Int) F1 := (rise_puts hpu (rise_none _) (chkT_once hc).1).1
    have ho1 := (puts_size hpu (F := []) (by simp)).2
    refine ⟨_, _, 0 + 1, F', rfl, hs, hfo.rise hr1, valid_forgot hfo ho1 hr1 (valid_puts hc hpu (rise_none _) (by simp)), by simpa [mapN] using hsz, by omega, hb⟩
/-- The state between the operations of a script. -/
structure HoldAt (w0 : World) (bs s g b pm now0 : Nat) (F0 : List FileS) (v : Int) (A1 A2 : Option Addr) (c1 c2 : Nat) (Ls Ws : List ByteArray) (k now : Nat) (F : List FileS) (L : List Int) (wr : World) : Prop where
  store : StoreAt wr bs s g b pm now F L
  kept : KeptV now0 F0 v now F L
  size : mapN F ≤ 20 + k * 20
  nows : now ≤ 1 + k
  list : wr.ownsRow bs 9 1 (.slice A1 Ls.length c1) Ls.length (strs Ls)
  was : wr.ownsRow bs 9 1 (.slice A2 Ws.length c2) Ws.length (strs Ws)
  below : Below w0.heap.size w0 wr
  base : bs ≤ wr.heap.size
theorem HoldAt.stay {w0 : World} {bs s g b pm now0 : Nat} {F0 : List FileS} {v : Int} {A1 A2 : Option Addr} {c1 c2 : Nat} {Ls Ws : List ByteArray} {k now : Nat} {F : List FileS} {L : List Int} {wr w' : World} (h : HoldAt w0 bs s g b pm now0 F0 v A1 A2 c1 c2 Ls Ws k now F L wr) (hb : Below wr.heap.size wr w') : HoldAt w0 bs s g b pm now0 F0 v A1 A2 c1 c2 Ls Ws k now F L w' :=
  ⟨h.store.below hb, h.kept, h.size, h.nows, own_stay h.list hb, own_stay h.was hb, below_from h.below hb, Nat.le_trans h.base hb.size⟩
theorem HoldAt.skip {w0 : World} {bs s g b pm now0 : Nat} {F0 : List FileS} {v : Int} {A1 A2 : Option Addr} {c1 c2 : Nat} {Ls Ws : List ByteArray} {k now : Nat} {F : List FileS} {L : List Int} {wr : World} (h : HoldAt w0 bs s g b pm now0 F0 v A1 A2 c1 c2 Ls Ws k now F L wr) : HoldAt w0 bs s g b pm now0 F0 v A1 A2 c1 c2 Ls Ws (k + 1) now F L wr :=
  ⟨h.store, h.kept, by have := h.size; omega, by have := h.nows; omega, h.list, h.was, h.below, h.base⟩
theorem HoldAt.did {w0 : World} {bs s g b pm now0 : Nat} {F0 : List FileS} {v : Int} {A1 A2 : Option Addr} {c1 c2 : Nat} {Ls Ws : List ByteArray} {k now : Nat} {F : List FileS} {L : List Int} {wr w' : World} (h : HoldAt w0 bs s g b pm now0 F0 v A1 A2 c1 c2 Ls Ws k now F L wr) {o : OpV} {e : Ending} (hp : DonePost s g b pm now o F L bs wr e w') (ho : o.2.2.length ≤ 20) (hno : ¬ (o.1 = 2 ∧ o.2.1 = v)) (hbs : w0.heap.size ≤ bs) :
    ∃ u1 u2 now' F' L', e = .returned (.tuple #[u1, u2]) ∧ HoldAt w0 bs s g b pm now0 F0 v A1 A2 c1 c2 Ls Ws (k + 1) now' F' L' w' := by
  obtain ⟨n, ver, now', F', L', rfl, hd, hsz, hs, hb, hf⟩ := hp
  obtain ⟨hk, h1, h2⟩ := h.kept.did hd h.store.tree.once hno
  exact ⟨_, _, now', F', L', rfl, hs, hk, by have := h.size; omega, by have := h.nows; omega, hf.own h.list (by decide) (by decide) (by decide), hf.own h.was (by decide) (by decide) (by decide), h.below.trans (hb.mono hbs), Nat.le_trans h.base hb.size⟩
set_option maxRecDepth 100000 in
set_option maxHeartbeats 16000000 in
theorem viewHolds_walk (v1 : Value) (l1 : List ChgD) (v2 : Value) (sc : List OpV) (more : Int) (w : World) (hv1 : SliceArg kChg w v1 l1) (hg1 : ∀ x ∈ l1, ChgArg x) (hv2 : SliceArg kOpV w v2 sc) (hg2 : ∀ x ∈ sc, OpVArg x) (hmore : (Lit.int .i64 more).wf = true) (hg : Env w) :
    Calls Tryz.prog 4 #[v1, v2, .int .i64 more] w fun e w' => e = .returned (.bool true) ∧ Below w.heap.size w w' := by
  obtain ⟨A1, c1, rfl, hlc1, hcm1, hC1⟩ := hv1
  obtain ⟨A2, c2, rfl, hlc2, hcm2, hC2⟩ := hv2
  have hmx : (maxLen : Nat) = 9223372036854775807 := rfl
  obtain ⟨hr2, hl2⟩ := opVRow_of hC2
  have HK := Lib.hid (looks_any w hg.ml)
  have HG := Lib.hid hg
  have HR1 := Lib.hid (chgRow_of hC1)
  have HL1 := Lib.hid (chgLen_of hC1)
  have HR2 := Lib.hid hr2
  have HL2 := Lib.hid hl2
  have HG1 := Lib.hid hg1
  have HG2 := Lib.hid hg2
  clear hC1 hC2 hg1 hg2 hg hr2 hl2
  go_enter Tryz.func4, Tryz.ntmps4
  go_wp2_with fail
  refine HK.out.mono ?_
  rintro e w1 ⟨rfl, hb1⟩
  have HB1 := Lib.hid hb1
  clear hb1
  go_wp2_with fail
  refine (fits_view A2 c2 sc w1 (HR2.out.below HB1.out) (by omega) (fun o ho => ⟨(HL2.out o ho).1, fun x hx => ⟨by have := ((HG2.out o ho).2.2 x hx).1; omega, (HL2.out o ho).2 x hx⟩⟩)).mono ?_
  rintro e w2 ⟨rfl, hb2⟩
  have HB2 := Lib.hid (below_from HB1.out hb2)
  clear hb2
  cases hft : fitV sc with
  | false =>
    go_wp2_with fail
    go_ret
    exact ⟨rfl, HB2.out⟩
  | true =>
    have hfs := good_fits hft HG2.out
    have hsc : sc.length ≤ 100 := (fitV_out hft).1
    have HFS := Lib.hid hfs
    clear hft hfs
    go_wp2_with fail
    have hbl := below_one w2 (.cells #[.int .i64 0, .int .i64 0, .slice A1 l1.length c1] 37)
    have HB3 := Lib.hid (below_from HB2.out hbl)
    have hrow := opVRow_one (heap_alloc_new w2 _) hlc1 (HR1.out.below HB3.out)
    refine (fits_view (some ⟨w2.heap.size, 0, none⟩) 1 [(0, 0, l1)] _ hrow (by simp) ?_).mono ?_
    · intro o ho
      rw [List.mem_singleton.1 ho]
      exact ⟨by show l1.length ≤ _; omega, fun x hx => ⟨by have := (HG1.out x hx).1; omega, HL1.out x hx⟩⟩
    rintro e w3 ⟨rfl, hb3⟩
    have HB4 := Lib.hid (below_from HB3.out hb3)
    clear hb3 hrow hbl
    cases hft : fitV [(0, 0, l1)] with
    | false =>
      go_wp2_with fail
      go_ret
      exact ⟨rfl, HB4.out⟩
    | true =>
      obtain ⟨hn1, hgo1⟩ := good_fit hft HG1.out
      have HF1 := Lib.hid hgo1
      clear hgo1 hft
      by_cases hm0 : more < 0
      · go_wp2_with fail
        go_ret
        exact ⟨rfl, HB4.out⟩
      by_cases hm5 : 5 < more
      · go_wp2_with fail
        go_ret
        exact ⟨rfl, HB4.out⟩
      obtain ⟨M, rfl⟩ : ∃ M : Nat, more = M := ⟨more.toNat, by omega⟩
      have hM : M ≤ 5 := by omega
      clear hm0 hm5
      go_wp2_with fail
      refine (new_store w3).mono ?_
      rintro e w4 ⟨s, g, b, pm, rfl, hs4, hb4⟩
      have HS4 := Lib.hid hs4
      have HB5 := Lib.hid (below_from HB4.out hb4)
      have hbs3 : w.heap.size ≤ w3.heap.size := HB4.out.size
      have hbs4 : w3.heap.size ≤ w4.heap.size := hb4.size
      clear hs4 hb4
      go_wp2_with fail
      refine (scommit_any s g b pm 0 A1 c1 l1 [] [] w4 (base := w3.heap.size) (by simp) (by omega) (fun W hW _ => HR1.out.below (HB5.out.trans (hW.mono hbs3))) HF1.out (by simp [mapN]) (by omega) (rise_none _) hbs4 HS4.out (HG.out.below HB5.out).ml).mono ?_
      intro e w5 hp
      obtain ⟨u1, u2, now1, F1, rfl, hs5, hri, hva, hmn, hnow1, hb5⟩ := first_commit hp hbs4
      have HS5 := Lib.hid hs5
      have HRI := Lib.hid hri
      have HVA := Lib.hid hva
      have HB6 := Lib.hid (HB5.out.trans (hb5.mono hbs3))
      have hbs5 : w3.heap.size ≤ w5.heap.size := Nat.le_trans hbs4 hb5.size
      have hmn20 : mapN F1 ≤ 20 := by omega
      clear hp hs5 hri hva hb5 hmn
      go_wp2_with fail
      refine (pin_any s g b pm now1 F1 [] w5 (base := w3.heap.size) (by simp) (by omega) hbs5 HS5.out).mono ?_
      rintro e w6 (⟨hno, _⟩ | ⟨_, rfl, hs6, hb6, _⟩)
      · simp at hno
      have hkv : KeptV now1 F1 (now1 : Int) now1 F1 [(now1 : Int)] := ⟨HRI.out, by simp, by omega, by omega, Shows.refl _ _ _, HVA.out, by simp, fun x hx => by rw [List.mem_singleton.1 hx]; omega⟩
      have HKV := Lib.hid hkv
      have HS6 := Lib.hid hs6
      have HB7 := Lib.hid (HB6.out.trans (hb6.mono hbs3))
      have hbs6 : w3.heap.size ≤ w6.heap.size := Nat.le_trans hbs5 hb6.size
      clear hkv hs6 hb6
      go_wp2_with fail
      go_loopw [60] (fun i wr => ∃ (k : Nat) (L : List Int), k ≤ M ∧ i = .int .i64 k ∧ KeptV now1 F1 (now1 : Int) now1 F1 L ∧ StoreAt wr w3.heap.size s g b pm now1 F1 L ∧ Below w.heap.size w wr ∧ w3.heap.size ≤ wr.heap.size) (fun i _ => M - (intOf i).toNat)
      case atStart => exact ⟨0, _, by omega, rfl, HKV.out, HS6.out, HB7.out, hbs6⟩
      case round =>
        obtain ⟨k, L, hk, rfl, hkv, hs7, hb7, hbs7⟩ := hrel
        obtain ⟨w7, rfl⟩ : ∃ W, W = wr := ⟨wr, rfl⟩
        have HK7 := Lib.hid hkv
        have HS7 := Lib.hid hs7
        have HB8 := Lib.hid hb7
        have hL64 := hkv.len
        clear hkv hs7 hb7
        by_cases hkM : k < M
        · go_wp2_with fail
          refine (pin_any s g b pm now1 F1 L w7 (base := w3.heap.size) (by omega) (by omega) hbs7 HS7.out).mono ?_
          rintro e w8 (⟨h64, rfl, hb8⟩ | ⟨h64, rfl, hs8, hb8, _⟩)
          · have HB9 := Lib.hid (below_from HB8.out hb8)
            have HS8 := Lib.hid (HS7.out.below hb8)
            have hbs8 : w3.heap.size ≤ w8.heap.size := Nat.le_trans hbs7 hb8.size
            clear hb8 h64
            go_wp2_with fail
            go_roundw
            case rel => exact ⟨k + 1, L, by omega, by go_num, HK7.out, HS8.out, HB9.out, hbs8⟩
            case measure => simp [intOf]; omega
          · have HB9 := Lib.hid (HB8.out.trans (hb8.mono hbs3))
            have HS8 := Lib.hid hs8
            have hbs8 : w3.heap.size ≤ w8.heap.size := Nat.le_trans hbs7 hb8.size
            have HK8 := Lib.hid (HK7.out.did (.pinned 0 [] h64) HS7.out.tree.once (fun e => by cases e.1)).1
            clear hb8 h64 hs8
            go_wp2_with fail
            go_roundw
            case rel => exact ⟨k + 1, _, by omega, by go_num, HK8.out, HS8.out, HB9.out, hbs8⟩
            case measure => simp [intOf]; omega
        · have hvw : (Lit.int .i64 (now1 : Int)).wf = true := by simp [Lit.wf, IntKind.min, IntKind.max, IntKind.signed, IntKind.bits]; omega
          go_wp2_with fail
          obtain ⟨Ls, hLs⟩ : ∃ Ls, (listT now1 F1 now1 ⟨#[]⟩).1 = Ls := ⟨_, rfl⟩
          have hlv : listV now1 F1 L now1 ⟨#[]⟩ = (Ls, 0) := by
            rw [HK7.out.list, ← hLs]
            refine Prod.ext rfl ?_
            rw [listT, if_neg (by omega)]
          refine (slist_any s g b pm now1 F1 L now1 ⟨#[]⟩ Ls 0 w7 hvw (by decide) (by omega) HS7.out hlv).mono ?_
          rintro e w8 ⟨Al, cl, rfl, hlc, hln, hlr, ho8, hb8⟩
          have HL := Lib.hid hLs
          have HLR := Lib.hid hlr
          have HO8 := Lib.hid ho8
          have HS8 := Lib.hid (HS7.out.below hb8)
          have HB9 := Lib.hid (below_from HB8.out hb8)
          have hbs8 : w3.heap.size ≤ w8.heap.size := Nat.le_trans hbs7 hb8.size
          have hs78 : w7.heap.size ≤ w8.heap.size := hb8.size
          have hwl : (wasT now1 F1 now1 Ls).length = Ls.length := by simp [wasT]
          have HWL := Lib.hid hwl
          obtain ⟨j0, hj0, hjz0, hjz1, hjz2⟩ := info_parts infoTxt
          clear hLs hlr ho8 hb8 hwl hlv
          go_wp2_with fail
          go_loopw [12, 73] (fun lv i wr => ∃ k : Nat, k ≤ Ls.length ∧ i = .int .i64 k ∧ wr.ownsRow w8.heap.size 9 1 lv ((wasT now1 F1 now1 Ls).take k).length (strs ((wasT now1 F1 now1 Ls).take k)) ∧ Below w8.heap.size w8 wr) (fun _ i _ => Ls.length - (intOf i).toNat)
          case atStart => exact ⟨0, by omega, rfl, ⟨rfl, .inl ⟨rfl, rfl⟩⟩, Below.refl _ _⟩
          case round =>
            obtain ⟨k, hk, rfl, hol, hbr⟩ := hrel
            have HOL := Lib.hid hol
            have HBR := Lib.hid hbr
            have hszr := hbr.size
            clear hol hbr
            by_cases hlt : k < Ls.length
            · obtain ⟨ad, rfl, htx⟩ := (HLR.out.below HBR.out) (by omega)
              obtain ⟨p, hp⟩ : ∃ p, p = Ls[k] := ⟨_, rfl⟩
              have x1 := htx k hlt
              rw [← hp] at x1
              have hpL : p ∈ (listT now1 F1 now1 ⟨#[]⟩).1 := by rw [HL.out, hp]; exact List.getElem_mem hlt
              have hrd : readV now1 F1 L now1 p = (dataT now1 F1 now1 p, 0) := by rw [HK7.out.read]; exact data_there hpL
              have hps := path_small HS8.out.tree (list_there hpL).1
              have htk : (wasT now1 F1 now1 Ls).take (k + 1) = (wasT now1 F1 now1 Ls).take k ++ [strOfNums (dataT now1 F1 now1 p)] := by
                rw [List.take_succ_eq_append_getElem (by rw [HWL.out]; exact hlt)]
                simp [wasT, hp]
              have HTK := Lib.hid htk
              have hkl : ((wasT now1 F1 now1 Ls).take k).length ≤ 90000 := by rw [List.length_take]; omega
              have HRD := Lib.hid hrd
              clear htx hp hpL hrd htk
              go_wp2_with fail
              refine (sread_any s g b pm now1 F1 L now1 p (dataT now1 F1 now1 p) 0 wr hvw hps (by omega) (HS8.out.below HBR.out) HRD.out).mono ?_
              rintro e w9 ⟨Ar, cr, rfl, hcv, _, hb8⟩
              have cv1 := hcv w9 (Below.refl _ _)
              have HB8 := Lib.hid (below_from HBR.out hb8)
              have HOL8 := Lib.hid (own_stay HOL.out hb8)
              have hsz8 := HB8.out.size
              clear hcv hb8
              go_wp2_with (at_builtin; go_loud (refine wpList_append_own _ rfl (.tmp 84) (.tmp 87) 24 rfl w8.heap.size 9 j0 (.string ⟨#[]⟩) 1 16 Tryz.underlying24 hj0 hjz0 hjz1 hjz2 rfl (by decide) u12 ((wasT now1 F1 now1 Ls).take k).length (strs ((wasT now1 F1 now1 Ls).take k)) (by simp [Act.eval, Act.put]) (own_stay HOL8.out (below_one _ _)) ⟨w9.heap.size, 0, none⟩ 1 1 [.string (strOfNums (dataT now1 F1 now1 p))] (by simp [Act.eval, Act.put]) rfl (cell_one_new _ _ _) (fun u hu => by (simp at hu; subst hu; rfl)) (by unfold maxLen; omega) (by omega) (by simp; omega) ?_); intro v9 w10 hown9 hg9 _)
              have hbn := below_one w9 (.cells #[.string (strOfNums (dataT now1 F1 now1 p))] 9)
              have HB9 := Lib.hid ((below_from HB8.out hbn).grown hg9 (below_from HB8.out hbn).size (fun k hk => (HOL8.out.lt k hk).1))
              have HOL9 := Lib.hid hown9
              clear hown9 hg9 hbn
              go_wp2_with fail
              go_roundw
              case rel => exact ⟨k + 1, by omega, by go_num, by rw [HTK.out]; simpa [strs] using HOL9.out, HB9.out⟩
              case measure => simp [intOf]; omega
            · obtain rfl : k = Ls.length := by omega
              obtain ⟨W0, rfl⟩ : ∃ W0, W0 = wr := ⟨wr, rfl⟩
              have htw : (wasT now1 F1 now1 Ls).take Ls.length = wasT now1 F1 now1 Ls := List.take_of_length_le (Nat.le_of_eq HWL.out)
              have how := HOL.out
              rw [htw] at how
              obtain ⟨Aw, cw, rfl, hwc, hwr⟩ := own_row how
              have HST : Hid (HoldAt w w3.heap.size s g b pm now1 F1 now1 Al Aw cl cw Ls (wasT now1 F1 now1 Ls) 0 now1 F1 L W0) := Lib.hid ⟨HS8.out.below HBR.out, HK7.out, by omega, by omega, own_mono (own_stay HO8.out HBR.out) hbs7, own_mono how hbs8, below_from HB9.out HBR.out, Nat.le_trans hbs8 hszr⟩
              clear htw how hwr
              go_wp2_with fail
              go_loopw [92] (fun i wr => ∃ (k now' : Nat) (F' : List FileS) (L' : List Int), k ≤ sc.length ∧ i = .int .i64 k ∧ HoldAt w w3.heap.size s g b pm now1 F1 now1 Al Aw cl cw Ls (wasT now1 F1 now1 Ls) k now' F' L' wr) (fun i _ => sc.length - (intOf i).toNat)
              case atStart => exact ⟨0, now1, F1, L, by omega, rfl, HST.out⟩
              case round =>
                obtain ⟨k, now', F', L', hk, rfl, hst⟩ := hrel
                obtain ⟨wk, rfl⟩ : ∃ W, W = wr := ⟨wr, rfl⟩
                have HS := Lib.hid hst
                clear hst
                by_cases hlt : k < sc.length
                · obtain ⟨bb, off, A3, c3, rfl, x1, x2, x3, x4, x5⟩ := HR2.out k hlt
                  obtain ⟨o, ho⟩ : ∃ o, o = sc[k] := ⟨_, rfl⟩
                  have hfo := HFS.out o (ho ▸ List.getElem_mem hlt)
                  rw [← ho] at x1 x2 x3 x4 x5
                  clear ho
                  obtain ⟨kd, nn, cs⟩ := o
                  simp only at x1 x2 x3 x4 x5 hfo
                  replace x1 := cell_below HS.out.below x1
                  replace x2 := cell_below HS.out.below x2
                  replace x3 := cell_below HS.out.below x3
                  have HCR := Lib.hid x5
                  have hcs20 : cs.length ≤ 20 := hfo.1
                  have hnw := hfo.2.1
                  have HGC := Lib.hid hfo.2.2
                  have hbo := below_one wk (.cells #[.int .i64 kd, .int .i64 nn, .slice A3 cs.length c3] 37)
                  have HS1 := Lib.hid (HS.out.stay hbo)
                  clear x5 hfo hbo
                  by_cases hsk : kd = 2 ∧ nn = (now1 : Int)
                  · obtain ⟨rfl, rfl⟩ := hsk
                    go_wp2_with fail
                    go_roundw
                    case rel => exact ⟨k + 1, now', F', L', by omega, by go_num, HS1.out.skip⟩
                    case measure => simp [intOf]; omega
                  · have HSK := Lib.hid hsk
                    have dsk : ((kd == 2) = true ∧ (nn == (now1 : Int)) = false) ∨ (kd == 2) = false := by
                      by_cases hkd : kd = 2
                      · exact .inl ⟨by simpa using hkd, by rw [beq_eq_false_iff_ne]; exact fun e => hsk ⟨hkd, e⟩⟩
                      · exact .inr (by simpa using hkd)
                    clear hsk
                    rcases dsk with ⟨d1, d2⟩ | d1
                    all_goals
                      go_wp2_with fail
                      refine (done_any s g b pm now' kd nn A3 c3 cs F' L' _ (base := w3.heap.size) hnw (by have := HS1.out.kept.len; omega) (by omega) (fun W hW => HCR.out.below (HS1.out.below.trans (hW.mono hbs3))) x4 HGC.out (by have := HS1.out.size; omega) (by have := HS1.out.nows; omega) HS1.out.kept.rise HS1.out.base HS1.out.store (fun W hW => HG.out.below (HS1.out.below.trans (hW.mono hbs3)))).mono ?_
                      intro e w10 hp
                      obtain ⟨u1, u2, now2, F2, L2, rfl, hst2⟩ := HS1.out.did hp hcs20 HSK.out hbs3
                      have HS2 := Lib.hid hst2
                      clear hp hst2 d1
                      go_wp2_with fail
                      have hlv : listV now2 F2 L2 now1 ⟨#[]⟩ = (Ls, 0) := by
                        rw [HS2.out.kept.list, ← HL.out]
                        refine Prod.ext rfl ?_
                        rw [listT, if_neg (by omega)]
                      refine (slist_any s g b pm now2 F2 L2 now1 ⟨#[]⟩ Ls 0 w10 hvw (by decide) (by have := HS2.out.size; omega) HS2.out.store hlv).mono ?_
                      rintro e w11 ⟨An, cn, rfl, hnc, hnl, hnr, _, hb11⟩
                      have HS3 := Lib.hid (HS2.out.stay hb11)
                      have HNR := Lib.hid hnr
                      clear hnr hb11 hlv
                      go_wp2_with fail
                      go_loopw [125] (fun i wv => ∃ j : Nat, j ≤ Ls.length ∧ i = .int .i64 j ∧ Below w11.heap.size w11 wv) (fun i _ => Ls.length - (intOf i).toNat)
                      case atStart => exact ⟨0, by omega, rfl, Below.refl _ _⟩
                      case round =>
                        obtain ⟨j, hj, rfl, hbv⟩ := hrel
                        obtain ⟨wv, rfl⟩ : ∃ W, W = wr := ⟨wr, rfl⟩
                        have HBV := Lib.hid hbv
                        clear hbv
                        have HS4 := Lib.hid (HS3.out.stay HBV.out)
                        by_cases hjl : j < Ls.length
                        · obtain ⟨ad, rfl, htx⟩ := (texts_row HS4.out.list) (by omega)
                          obtain ⟨p, hp⟩ : ∃ p, p = Ls[j] := ⟨_, rfl⟩
                          have x1 := htx j hjl
                          rw [← hp] at x1
                          have hpL : p ∈ (listT now1 F1 now1 ⟨#[]⟩).1 := by rw [HL.out, hp]; exact List.getElem_mem hjl
                          have hrd : readV now2 F2 L2 now1 p = (dataT now1 F1 now1 p, 0) := by rw [HS4.out.kept.read]; exact data_there hpL
                          have hps := path_small HS8.out.tree (list_there hpL).1
                          have hjw : j < (wasT now1 F1 now1 Ls).length := by rw [HWL.out]; exact hjl
                          have hwj : (wasT now1 F1 now1 Ls)[j] = strOfNums (dataT now1 F1 now1 p) := by simp [wasT, hp]
                          have HWJ := Lib.hid hwj
                          have HRD := Lib.hid hrd
                          have HP := Lib.hid hp
                          clear htx hp hpL hrd hwj
                          go_wp2_with fail
                          refine (sread_any s g b pm now2 F2 L2 now1 p (dataT now1 F1 now1 p) 0 wv hvw hps (by have := HS4.out.size; omega) HS4.out.store HRD.out).mono ?_
                          rintro e w13 ⟨Ar, cr, rfl, hcv, _, hb13⟩
                          have cv1 := fun n => hcv (w13.drewN n) (below_drewN (Below.refl _ _) n)
                          have HB13 := Lib.hid (below_from HBV.out hb13)
                          obtain ⟨ad2, rfl, hwx⟩ := (texts_row (HS4.out.stay hb13).was) (by rw [HWL.out]; omega)
                          have x2 := hwx j hjw
                          rw [HWJ.out] at x2
                          obtain ⟨ad3, rfl, hnx⟩ := (HNR.out.below HB13.out) (by omega)
                          have x3 := hnx j hjl
                          rw [← HP.out] at x3
                          clear hcv hb13 hwx hnx
                          go_wp2_with fail
                          go_quiet (fail)
                          go_wp2_with fail
                          go_roundw
                          case rel => exact ⟨j + 1, by omega, by go_num, below_drewN HB13.out _⟩
                          case measure => simp [intOf]; omega
                        · go_wp2_with fail
                          go_roundw
                          case rel => exact ⟨k + 1, now2, F2, L2, by omega, by go_num, HS4.out⟩
                          case measure => simp [intOf]; omega
                · have hcn := chk_nothing HS.out.kept.valid (by have := HS.out.nows; omega)
                  have HCN := Lib.hid hcn
                  clear hcn
                  go_wp2_with fail
                  refine (scommit_any s g b pm now' none 0 [] F' L' wk (base := w3.heap.size) (by have := HS.out.kept.len; omega) (by simp) (fun W _ _ j hj => by simp at hj) (fun x hx => by cases hx) (by have := HS.out.size; omega) (by have := HS.out.nows; omega) HS.out.kept.rise HS.out.base HS.out.store (HG.out.below HS.out.below).ml).mono ?_
                  rintro e w10 (⟨hno, _⟩ | ⟨_, B, F2, F3, rfl, hpu, hfo, hsz, hs10, hb10, _⟩)
                  · exact absurd HCN.out hno
                  have hF2 := puts_none hpu rfl
                  rw [hF2] at hfo
                  have HRI3 := Lib.hid (hfo.rise (HS.out.kept.rise.mono (by omega)))
                  have HS10 := Lib.hid hs10
                  have HB10 := Lib.hid (HS.out.below.trans (hb10.mono hbs3))
                  have hbs10 : w3.heap.size ≤ w10.heap.size := Nat.le_trans HS.out.base hb10.size
                  have hmn3 : mapN F3 ≤ 20 + k * 20 := by have := HS.out.size; simpa using Nat.le_trans hsz (by simpa using this)
                  have HKE := Lib.hid HS.out.kept
                  have hnw3 := HS.out.nows
                  clear hpu hfo hs10 hb10 hF2 hsz
                  go_wp2_with fail
                  go_loopw [25] (fun nv wr => ∃ (j : Nat) (F4 : List FileS) (L4 : List Int), nv = .int .i64 j ∧ j + L4.count (now1 : Int) = L'.count (now1 : Int) ∧ L4.length ≤ 64 ∧ StoreAt wr w3.heap.size s g b pm (now' + 1) F4 L4 ∧ RiseF ((now' + 1 : Nat) : Int) F4 ∧ mapN F4 ≤ 20 + k * 20 ∧ Below w.heap.size w wr ∧ w3.heap.size ≤ wr.heap.size) (fun nv _ => 65 - (intOf nv).toNat)
                  case atStart => exact ⟨0, F3, L', rfl, by omega, HKE.out.len, HS10.out, HRI3.out, hmn3, HB10.out, hbs10⟩
                  case round =>
                    obtain ⟨j, F4, L4, rfl, hcnt, hl4, hs4, hri4, hmn4, hb4, hbs4'⟩ := hrel
                    obtain ⟨wn, rfl⟩ : ∃ W, W = wr := ⟨wr, rfl⟩
                    have HS4 := Lib.hid hs4
                    have HRI4 := Lib.hid hri4
                    have HB4' := Lib.hid hb4
                    have hjle : j ≤ 64 := by
                      have h1 := List.count_le_length (a := (now1 : Int)) (l := L')
                      have := HKE.out.len
                      omega
                    have HCNT := Lib.hid hcnt
                    clear hs4 hri4 hb4 hcnt
                    go_wp2_with fail
                    refine (unpin_any s g b pm (now' + 1) F4 L4 now1 wn (base := w3.heap.size) hvw (by omega) (by omega) (by omega) HRI4.out hbs4' HS4.out).mono ?_
                    rintro e w11 (⟨hno, rfl, hb11⟩ | ⟨hin, F5, rfl, hsame, hfo, hsz5, hs11, hb11, _⟩)
                    · have hj1 : 1 ≤ j := by
                        have h1 : L4.count (now1 : Int) = 0 := List.count_eq_zero.2 hno
                        have h2 : 0 < L'.count (now1 : Int) := List.count_pos_iff.2 HKE.out.mem
                        have := HCNT.out
                        omega
                      have dj : decide ((1 : Int) ≤ (j : Int)) = true := by simp; omega
                      have HB11 := Lib.hid (below_from HB4'.out hb11)
                      have HS11 := Lib.hid (HS4.out.below hb11)
                      have hhi := HKE.out.high
                      have hth : thereV (now' + 1) L4 (now1 : Int) = 190 := by
                        unfold thereV
                        rw [if_neg (by omega), if_pos ⟨by omega, hno⟩]
                      have hlv : listV (now' + 1) F4 L4 now1 ⟨#[]⟩ = ([], 190) := by
                        rw [listV, hth]; rfl
                      have HLV := Lib.hid hlv
                      clear hb11 hth hlv hno
                      go_wp2_with fail
                      refine (slist_any s g b pm (now' + 1) F4 L4 now1 ⟨#[]⟩ [] 190 w11 hvw (by decide) (by omega) HS11.out HLV.out).mono ?_
                      rintro e w12 ⟨An, cn, rfl, _, _, _, _, hb12⟩
                      have HB12 := Lib.hid (below_from HB11.out hb12)
                      clear hb12
                      go_wp2_with fail
                      go_ret
                      exact ⟨rfl, HB12.out⟩
                    · have hri5 : RiseF ((now' + 1 : Nat) : Int) F5 := by
                        by_cases hie : (now1 : Int) ∈ L4.erase now1
                        · rw [hsame hie]; exact HRI4.out
                        · exact (hfo hie).rise HRI4.out
                      have hc1 : (L4.erase (now1 : Int)).count (now1 : Int) + 1 = L4.count (now1 : Int) := by
                        have h1 : 0 < L4.count (now1 : Int) := List.count_pos_iff.2 hin
                        rw [List.count_erase_self]
                        omega
                      have hcn2 : j + 1 + (L4.erase (now1 : Int)).count (now1 : Int) = L'.count (now1 : Int) := by have := HCNT.out; omega
                      have hjl : j < 64 := by
                        have h1 := List.count_le_length (a := (now1 : Int)) (l := L')
                        have := HKE.out.len
                        omega
                      have hle5 : (L4.erase (now1 : Int)).length ≤ 64 := Nat.le_trans List.length_erase_le hl4
                      have HB11 := Lib.hid (HB4'.out.trans (hb11.mono hbs3))
                      have HS11 := Lib.hid hs11
                      have HRI5 := Lib.hid hri5
                      have HC2 := Lib.hid hcn2
                      have HLE5 := Lib.hid hle5
                      have hbs11 : w3.heap.size ≤ w11.heap.size := Nat.le_trans hbs4' hb11.size
                      have HMN5 := Lib.hid (Nat.le_trans hsz5 hmn4)
                      clear hri5 hc1 hcn2 hb11 hs11 hsame hfo hsz5 hin hle5
                      go_wp2_with fail
                      go_roundw
                      case rel => exact ⟨j + 1, F5, _, by go_num, HC2.out, HLE5.out, HS11.out, HRI5.out, HMN5.out, HB11.out, hbs11⟩
                      case measure => simp [intOf]; omega
end Go.Proofs.YtmamkegcnacbbaaGreatDoor
