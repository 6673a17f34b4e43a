/-
  The law TreeAll, walked.
-/
import Derived.Test.YtmamkegcnacbbaaDoorTreeFits
import Derived.Test.YtmamkegcnacbbaaDoorForgetP
import Derived.Outline
set_option linter.unusedVariables false
set_option linter.unusedSimpArgs false
namespace Go.Proofs.YtmamkegcnacbbaaDoor
open Go.RowKit Go.Maps Go.WideMaps Go.WideAt
open Go.Proofs.YtmamkegcnacbbaaDoorW.PrintWords (Kd ReadsRow)
theorem opRow_two {W : World} {B : Nat} {A1 A2 : Option Addr} {c1 c2 : Nat} {l1 l2 : List ChgD} (hb : W.heap[B]? = some (Obj.cells #[.int .i64 0, .slice A1 l1.length c1, .slice none 0 0, .int .i64 0, .slice A2 l2.length c2, .slice none 0 0] 52 (0, 0)))
    (h1 : l1.length ≤ c1) (r1 : ChgRow W A1 l1) (h2 : l2.length ≤ c2) (r2 : ChgRow W A2 l2) : OpTRow W (some ⟨B, 0, none⟩) [(0, l1, []), (0, l2, [])] := fun k hk => by
  match k, hk with
  | 0, _ => exact ⟨B, 0, A1, c1, none, 0, rfl, by simp [World.cell?, hb], by simp [World.cell?, hb], by simp [World.cell?, hb], h1, r1, by simp, intRow_none⟩
  | 1, _ => exact ⟨B, 0, A2, c2, none, 0, rfl, by simp [World.cell?, hb], by simp [World.cell?, hb], by simp [World.cell?, hb], h2, r2, by simp, intRow_none⟩
theorem opRow_one {W : World} {B : Nat} {A1 : Option Addr} {c1 : Nat} {l1 : List ChgD} (hb : W.heap[B]? = some (Obj.cells #[.int .i64 0, .slice A1 l1.length c1, .slice none 0 0] 52 (0, 0)))
    (h1 : l1.length ≤ c1) (r1 : ChgRow W A1 l1) : OpTRow W (some ⟨B, 0, none⟩) [(0, l1, [])] := fun k hk => by
  match k, hk with
  | 0, _ => exact ⟨B, 0, A1, c1, none, 0, rfl, by simp [World.cell?, hb], by simp [World.cell?, hb], by simp [World.cell?, hb], h1, r1, by simp, intRow_none⟩
/-- An argument that is changes. -/
def ChgArg (x : ChgD) : Prop := x.1.size ≤ maxLen ∧ (∀ y ∈ x.2.1, (Lit.int .u8 y).wf = true) ∧ True
structure Fits1 (l : List ChgD) : Prop where
  len : l.length ≤ 80
  good : ∀ c ∈ l, GoodC c
theorem fits1_of {l : List OpT} (h : fitT l = true) {o : OpT} (ho : o ∈ l) (hg : ∀ x ∈ o.2.1, ChgArg x) : Fits1 o.2.1 := by
  obtain ⟨_, h2, _⟩ := fitT_out h
  obtain ⟨a, _, b⟩ := h2 o ho
  exact ⟨a, fun c hc => ⟨by have := (b c hc).1; omega, (hg c hc).2.1, (b c hc).2⟩⟩
theorem chkT_once {now : Nat} {F : List FileS} {l : List ChgD} (h : chkT now F l = .nil) : (l.map (·.1)).Nodup ∧ (∀ c ∈ l, checkB c.1 = none) ∧ (∀ c ∈ l, c.2.2 = true → c.2.1 = []) := by
  unfold chkT at h
  split at h
  · cases h
  · rename_i af n hgo
    obtain ⟨a, _, b, c⟩ := chkGo_once hgo
    exact ⟨a, b, c⟩
/-- What is there behind changes, made or not. -/
structure Mid (g b now m : Nat) (F : List FileS) (base : Nat) (w : World) (w' : World) (now' : Nat) (F' : List FileS) : Prop where
  tree : TreeAt w' base g b now' F'
  below : Below base w w'
  size : mapN F' ≤ mapN F + m
  now : now ≤ now' ∧ now' ≤ now + 1
  rise : RiseF now' F'
  frame : TFrame b w w'
theorem commit_mid {g b now : Nat} {l : List ChgD} {F : List FileS} {base : Nat} {w : World} {e : Ending} {w' : World} (hp : CommitPost g b now l F base w e w') (ht : TreeAt w base g b now F) (hr : RiseF now F) (hbase : base ≤ w.heap.size) :
    ∃ u1 u2 now' F', e = .returned (.tuple #[u1, u2]) ∧ Mid g b now l.length F base w w' now' F' := by
  rcases hp with ⟨_, t, v, rfl, _, h1, h2⟩ | ⟨hc, F', rfl, h1, h2, h3, h4⟩
  · exact ⟨_, _, now, F, rfl, h1, h2.mono hbase, by omega, by omega, hr, TFrame.of_below h2⟩
  · exact ⟨_, _, now + 1, F', rfl, h2, h3, Nat.le_of_eq (puts_size h1 ht.once).1, by omega, (rise_puts h1 hr (chkT_once hc).1).1, h4⟩
theorem rise_top {now : Int} {F : List FileS} (h : RiseF now F) {v v' : Int} (h1 : now ≤ v) (h2 : now ≤ v') (p : ByteArray) : atRow F v p = atRow F v' p :=
  atRow_top (fun f hf r hr => ⟨by have := ((h f hf).2 r hr).2; omega, by have := ((h f hf).2 r hr).2; omega⟩) p
theorem list_len (now : Nat) (F : List FileS) (v : Int) (root : ByteArray) : (listT now F v root).1.length ≤ F.length := by
  rw [listT]
  split
  · simp
  · rw [sortB_len]
    exact Nat.le_trans (List.length_filter_le _ _) (by simp)
theorem list_there {now : Nat} {F : List FileS} {v : Int} {root q : ByteArray} (h : q ∈ (listT now F v root).1) : q ∈ F.map FileS.path ∧ ∃ d, readT now F v q = (d, 0) := by
  by_cases hv : v < 0 ∨ (now : Int) < v
  · rw [listT, if_pos hv] at h
    cases h
  · rw [list_mem (by omega) (by omega)] at h
    refine ⟨h.1, ?_⟩
    have h2 := h.2.2
    unfold thereB at h2
    rw [readT, if_neg hv]
    cases hr : atRow F v q with
    | none => rw [hr] at h2; cases h2
    | some r =>
      rw [hr] at h2
      have hg : r.gone = false := by simpa using h2
      exact ⟨r.data, by simp [hg]⟩
theorem read_elder {n now now' B : Nat} {F F' : List FileS} {l : List ChgD} (h : Puts n B F l F') {ver : Int} (hv : ver < n) (h0 : 0 ≤ ver) (h1 : ver ≤ now) (h1' : ver ≤ now') (q : ByteArray) : readT now' F' ver q = readT now F ver q := by
  rw [readT, readT, if_neg (by omega), if_neg (by omega), puts_old h hv]
theorem read_else {now B : Nat} {F F' : List FileS} {l : List ChgD} (h : Puts (now + 1) B F l F') (hr : RiseF now F) {q : ByteArray} (hq : q ∉ l.map (·.1)) : readT (now + 1) F' ((now : Int) + 1) q = readT now F now q := by
  rw [readT, readT, if_neg (by omega), if_neg (by omega), puts_not h hq, rise_top hr (show (now : Int) ≤ (now : Int) + 1 by omega) (Int.le_refl _)]
/-- List at a version that there is. -/
theorem list_text (g b now : Nat) (v : Int) (root : ByteArray) (F : List FileS) (L : List ByteArray) (w : World) {base : Nat} (hroot : root.size ≤ 140737488351232) (hm : mapN F ≤ 90000) (ht : TreeAt w base g b now F) (h0 : 0 ≤ v) (h1 : v ≤ now) (hL : (listT now F v root).1 = L) :
    Calls Tryd.prog 23 #[.pointer (some ⟨g, 0, none⟩), .int .i64 v, .string root] w fun e w' => ∃ A c, e = .returned (.tuple #[.slice A L.length c, .int .i64 0]) ∧ L.length ≤ c ∧ L.length ≤ 90000 ∧ TextRow w' A L ∧ w'.ownsRow w.heap.size 9 1 (.slice A L.length c) L.length (strs L) ∧ Below w.heap.size w w' := by
  have hs := ht.small hm
  have hll := list_len now F v root
  rw [hL] at hll
  refine (list_any g b now v root F w hroot (fun f hf => Nat.le_trans (hs.2 f hf) (by omega)) (Nat.le_trans hs.1 (by omega)) ht).mono ?_
  rintro e w' ⟨u, rfl, ho, hb⟩
  have e2 : (listT now F v root).2 = 0 := by rw [listT, if_neg (by omega)]
  rw [hL] at ho
  obtain ⟨A, c, rfl, hc, hr⟩ := own_row ho
  rw [e2]
  exact ⟨A, c, rfl, hc, Nat.le_trans hll hs.1, hr, ho, hb⟩
theorem read_text (g b now : Nat) (v : Int) (p : ByteArray) (F : List FileS) (d : List Int) (k : Int) (w : World) {base : Nat} (hp : p.size ≤ maxLen) (hm : mapN F ≤ 90000) (ht : TreeAt w base g b now F) (hr : readT now F v p = (d, k)) :
    Calls Tryd.prog 25 #[.pointer (some ⟨g, 0, none⟩), .int .i64 v, .string p] w fun e w' => ∃ A c, e = .returned (.tuple #[.slice A d.length c, .int .i64 k]) ∧ (∀ W, Below w'.heap.size w' W → (convert 41 9 (.slice A d.length c)).run Tryd.prog W = .ok (.string (strOfNums d)) W) ∧ w'.ownsRow w.heap.size 5 1 (.slice A d.length c) d.length (u8V d) ∧ Below w.heap.size w w' := by
  have hs := ht.small hm
  refine (read_any g b now v p F w hp (fun f hf => Nat.le_trans (hs.2 f hf) (by omega)) ht).mono ?_
  rw [hr]
  rintro e w' ⟨u, rfl, ho, hb⟩
  obtain ⟨A, c, rfl, _, r, sl⟩ := own_bytes ho
  exact ⟨A, c, rfl, fun W hW => conv_row c (r.below hW) sl, ho, hb⟩
set_option maxRecDepth 100000 in
set_option maxHeartbeats 8000000 in
theorem treeAll_walk (v1 : Value) (l1 : List ChgD) (v2 : Value) (l2 : List ChgD) (w : World) (hv1 : SliceArg kChg w v1 l1) (hg1 : ∀ x ∈ l1, ChgArg x) (hv2 : SliceArg kChg w v2 l2) (hg2 : ∀ x ∈ l2, ChgArg x) (hg : EnvM w) :
    Calls Tryd.prog 7 #[v1, v2] w fun e w' => e = .returned (.bool true) ∧ Below w.heap.size w w' := by
  obtain ⟨A1, c1, rfl, hlc1, hcm1, hC1⟩ := hv1
  obtain ⟨A2, c2, rfl, hlc2, hcm2, hC2⟩ := hv2
  have hmx : (maxLen : Nat) = 9223372036854775807 := rfl
  have HK := Lib.hid (grows_any w hg)
  have HG := Lib.hid hg
  have HR1 := Lib.hid (chgRow_of hC1)
  have HR2 := Lib.hid (chgRow_of hC2)
  have HL1 := Lib.hid (chgLen_of hC1)
  have HL2 := Lib.hid (chgLen_of hC2)
  have HG1 := Lib.hid hg1
  have HG2 := Lib.hid hg2
  clear hC1 hC2 hg1 hg2 hg
  go_enter Tryd.func7, Tryd.ntmps7
  go_wp2_with fail
  refine HK.out.mono ?_
  rintro e w1 ⟨rfl, hb1⟩
  have HB1 := Lib.hid hb1
  clear hb1
  go_wp2_with fail
  have hbl := below_one w1 (.cells #[.int .i64 0, .slice A1 l1.length c1, .slice none 0 0, .int .i64 0, .slice A2 l2.length c2, .slice none 0 0] 52)
  have HB2 := Lib.hid (below_from HB1.out hbl)
  have hrow := opRow_two (heap_alloc_new w1 _) hlc1 (HR1.out.below HB2.out) hlc2 (HR2.out.below HB2.out)
  refine (fits_tree (some ⟨w1.heap.size, 0, none⟩) 2 [(0, l1, []), (0, l2, [])] _ hrow (by simp) ?_).mono ?_
  · intro o ho
    rcases List.mem_cons.1 ho with rfl | ho
    · exact ⟨by show l1.length ≤ _; omega, by simp, fun x hx => ⟨by have := (HG1.out x hx).1; omega, HL1.out x hx⟩⟩
    · rw [List.mem_singleton.1 ho]
      exact ⟨by show l2.length ≤ _; omega, by simp, fun x hx => ⟨by have := (HG2.out x hx).1; omega, HL2.out x hx⟩⟩
  rintro e w2 ⟨rfl, hb2⟩
  have HB3 := Lib.hid (below_from HB2.out hb2)
  clear hb2 hrow hbl
  cases hft : fitT [(0, l1, []), (0, l2, [])] with
  | false =>
    go_wp2_with fail
    go_ret
    exact ⟨rfl, HB3.out⟩
  | true =>
    have F1 := fits1_of hft (o := (0, l1, [])) (by simp) HG1.out
    have F2 := fits1_of hft (o := (0, l2, [])) (by simp) HG2.out
    have hn1 : l1.length ≤ 80 := F1.len
    have hn2 : l2.length ≤ 80 := F2.len
    have HF1 := Lib.hid F1.good
    have HF2 := Lib.hid F2.good
    clear F1 F2 hft
    go_wp2_with fail
    refine (new_tree w2).mono ?_
    rintro e w3 ⟨g, b, rfl, ht3, hb3⟩
    have HT3 := Lib.hid ht3
    have HB4 := Lib.hid (below_from HB3.out hb3)
    have HL3 := Lib.hid (And.intro hb3.size HB3.out.size)
    clear ht3 hb3
    go_wp2_with fail
    refine (commit_any g b 0 A1 c1 l1 [] w3 (base := w2.heap.size) (by omega) (fun W hW _ => HR1.out.below (HB4.out.trans (hW.mono HL3.out.2))) HF1.out (fun f hf => by cases hf) (by simp) (by omega) HT3.out HL3.out.1 (HG.out.below HB4.out)).mono ?_
    intro e w4 hp
    obtain ⟨u1, u2, now1, F1, rfl, hm⟩ := commit_mid hp HT3.out (rise_none _) HL3.out.1
    have hw2 := HL3.out.2
    have HM := Lib.hid hm
    have HB5 := Lib.hid (HB4.out.trans (hm.below.mono hw2))
    have hsz1 := hm.size
    have hnow1 := hm.now
    have h0 : mapN ([] : List FileS) = 0 := rfl
    rw [h0] at hsz1
    have hsm := hm.tree.small (m := 80) (by omega)
    have HSM := Lib.hid hsm
    have hbs4 : w2.heap.size ≤ w4.heap.size := Nat.le_trans HL3.out.1 hm.below.size
    clear hp hm hsm h0
    go_wp2_with fail
    refine (now_any g b now1 F1 w4 HM.out.tree).mono ?_
    rintro e w5 ⟨rfl, rfl⟩
    go_wp2_with fail
    obtain ⟨old, hold⟩ : ∃ old, (listT now1 F1 now1 ⟨#[]⟩).1 = old := ⟨_, rfl⟩
    have HOLD := Lib.hid hold
    refine (list_text g b now1 now1 ⟨#[]⟩ F1 old w5 (by decide) (by omega) HM.out.tree (by omega) (Int.le_refl _) hold).mono ?_
    clear hold
    rintro e w6 ⟨Ao, co, rfl, hoc, hol, hor, ho6, hb6⟩
    have HB6 := Lib.hid hb6
    have HOR := Lib.hid hor
    have HT6 := Lib.hid (HM.out.tree.below hb6)
    have HB7 := Lib.hid (below_from HB5.out hb6)
    have HO6 := Lib.hid ho6
    clear hb6 hor ho6
    have hbs6 : w2.heap.size ≤ w6.heap.size := Nat.le_trans hbs4 HB6.out.size
    go_wp2_with fail
    refine (commit_any g b now1 A2 c2 l2 F1 w6 (base := w2.heap.size) (by omega) (fun W hW _ => HR2.out.below (HB7.out.trans (hW.mono hw2))) HF2.out (fun f hf => Nat.le_trans (HSM.out.2 f hf) (by omega)) (by have := HSM.out.1; omega) (by omega) HT6.out hbs6 (HG.out.below HB7.out)).mono ?_
    intro e w7 hp
    rcases hp with ⟨_, t, v, rfl, _, ht7, hb7⟩ | ⟨hc, F2, rfl, hpu, ht7, hb7, hf7⟩
    · have HT7 := Lib.hid ht7
      have HB8 := Lib.hid (below_from HB7.out hb7)
      have HOR7 := Lib.hid (HOR.out.below hb7)
      clear ht7 hb7
      go_wp2_with fail
      refine (now_any g b now1 F1 w7 HT7.out).mono ?_
      rintro e w8 ⟨rfl, rfl⟩
      go_wp2_with fail
      refine (list_text g b now1 now1 ⟨#[]⟩ F1 old w8 (by decide) (by omega) HT7.out (by omega) (Int.le_refl _) HOLD.out).mono ?_
      rintro e w9 ⟨Al, cl, rfl, hlc, _, hlr, _, hb9⟩
      have HT9 := Lib.hid (HT7.out.below hb9)
      have HB9 := Lib.hid (below_from HB8.out hb9)
      have HOR9 := Lib.hid (HOR7.out.below hb9)
      have HLR := Lib.hid hlr
      clear hb9 hlr
      go_wp2_with fail
      refine (now_any g b now1 F1 w9 HT9.out).mono ?_
      rintro e w10 ⟨rfl, rfl⟩
      go_wp2_with fail
      refine (same_any Al Ao cl co old old w10 HLR.out HOR9.out (by omega) (by omega)).mono ?_
      rintro e w11 ⟨rfl, hb11⟩
      have HB11 := Lib.hid (below_from HB9.out hb11)
      clear hb11
      go_wp2_with fail
      go_ret
      exact ⟨by simp, HB11.out⟩
    · have HPU := Lib.hid hpu
      have HC := Lib.hid hc
      have HT7 := Lib.hid ht7
      have HB8 := Lib.hid (HB7.out.trans (hb7.mono hw2))
      have HF7 := Lib.hid hf7
      have HS7 := Lib.hid (puts_size hpu (HT6.out.once)).1
      have hbs7 : w2.heap.size ≤ w7.heap.size := Nat.le_trans hbs6 hb7.size
      have HOR7 : Hid (TextRow w7 Ao old) := Lib.hid (by
        obtain ⟨A', c', e1, _, hr⟩ := own_row (hf7.own HO6.out ⟨by decide, by decide⟩ HT6.out.noCells)
        injection e1 with e1
        rw [e1]
        exact hr)
      have hm7 : mapN F2 ≤ 160 := by have := HS7.out; omega
      clear hpu hc ht7 hb7 hf7
      have hmm := @run_makeMap Tryd.prog
      go_wp2_with fail
      refine (now_any g b (now1 + 1) F2 w7 HT7.out).mono ?_
      rintro e w8 ⟨rfl, rfl⟩
      go_wp2_with fail
      have HM0 := Lib.hid (mapAs_new w8 Tryd.prog 9)
      have HBM := Lib.hid (below_one w8 (.map #[] 0))
      go_loopw [86] (fun i wr => ∃ (k : Nat) (ms : Lit → Option Value), k ≤ l2.length ∧ i = .int .i64 k ∧ MapAs wr Tryd.prog 9 w8.heap.size k ms ∧ SeenIs ms ((l2.take k).map (·.1)) ∧ Below w8.heap.size w8 wr) (fun i _ => l2.length - (intOf i).toNat)
      case atStart => exact ⟨0, _, by omega, rfl, HM0.out, seen_none, HBM.out⟩
      case round =>
        obtain ⟨k, ms, hk, rfl, hms, hsn, hbr⟩ := hrel
        have HMS := Lib.hid hms
        have HSN := Lib.hid hsn
        have HBR := Lib.hid hbr
        have hszr := hbr.size
        have hmlt := hms.lt
        clear hms hsn hbr
        by_cases hlt : k < l2.length
        · obtain ⟨bb, off, A3, c3, rfl, x1, x2, x3, x4, x5, x6⟩ := HR2.out k hlt
          obtain ⟨ch, hch⟩ : ∃ ch, ch = l2[k] := ⟨_, rfl⟩
          have hgc := HF2.out ch (hch ▸ List.getElem_mem hlt)
          have hrd := puts_read HPU.out (chkT_once HC.out).1 (hch ▸ List.getElem_mem hlt : ch ∈ l2) (now := now1 + 1) (ver := (now1 : Int) + 1) (by omega) (by omega)
          have htake : (l2.take (k + 1)).map (·.1) = (l2.take k).map (·.1) ++ [ch.1] := by rw [List.take_succ_eq_append_getElem hlt, List.map_append, hch]; rfl
          rw [← hch] at x1 x2 x3 x4 x5 x6
          obtain ⟨p, d, gn⟩ := ch
          obtain ⟨hps, hdw, hdl⟩ := hgc
          simp only at x1 x2 x3 x4 x5 x6 hps hdw hdl htake hrd
          have hbwr := below_from HB8.out HBR.out
          replace x1 := cell_below hbwr x1
          replace x2 := cell_below hbwr x2
          replace x3 := cell_below hbwr x3
          have hpm : p.size ≤ maxLen := by unfold maxLen; omega
          have hbo := below_one wr (.cells #[.string p, .slice A3 d.length c3, .bool gn] 43)
          have HOB : Hid ((wr.alloc (.cells #[.string p, .slice A3 d.length c3, .bool gn] 43)).heap[wr.heap.size]? = some (.cells #[.string p, .slice A3 d.length c3, .bool gn] 43 (0, 0))) := Lib.hid (heap_alloc_new wr _)
          have hm2 := HMS.out.below hbo
          obtain ⟨w2', hrun2, hm3, hg3⟩ := hm2.store strKeyed Tryd.underlying63 (by unfold maxLen; omega) (key := .string p) (.bool true) (keyOf_string_mk Tryd.underlying9 hpm)
          have HB9 := Lib.hid ((below_from HBR.out hbo).grown hg3 (below_from HBR.out hbo).size (fun j hj => by cases hj; exact Nat.le_refl _))
          have HSN3 : Hid (SeenIs (upd ms (keyS p) (.bool true)) ((l2.take (k + 1)).map (·.1))) := Lib.hid (htake ▸ HSN.out.put p)
          have HM3 := Lib.hid hm3
          have HOB3 := Lib.hid ((hg3.block _ (lt_of_block HOB.out) (fun e => by injection e; omega)).trans HOB.out)
          have HRD := Lib.hid hrd
          have HBY := Lib.hid x5
          have HBZ := Lib.hid x6
          have hbs9 := HB9.out.size
          clear hbo hm2 hm3 hg3 hdw htake hrd x5 x6 hch hbwr
          have z1 : w2'.cell? ⟨wr.heap.size, 0, none⟩ = some (.string p) := by simp [World.cell?, HOB3.out]
          go_wp2_with fail
          cases gn with
          | true =>
            simp only [if_true] at HRD
            refine (read_text g b (now1 + 1) _ p F2 [] 4 w2' hpm (by omega) (HT7.out.below HB9.out) HRD.out).mono ?_
            rintro e w10 ⟨Ar, cr, rfl, _, _, hb10⟩
            have HB10 := Lib.hid (below_from HB9.out hb10)
            have HOB10 := Lib.hid (block_below HOB3.out hb10)
            have y3 : w10.cell? ⟨wr.heap.size, 2, none⟩ = some (.bool true) := by simp [World.cell?, HOB10.out]
            have HM10 := Lib.hid (HM3.out.below hb10)
            clear hb10 z1
            go_wp2_with fail
            go_roundw
            case rel => exact ⟨k + 1, _, by omega, by go_num, HM10.out, HSN3.out, HB10.out⟩
            case measure => simp [intOf]; omega
          | false =>
            simp only [Bool.false_eq_true, if_false] at HRD
            refine (read_text g b (now1 + 1) _ p F2 d 0 w2' hpm (by omega) (HT7.out.below HB9.out) HRD.out).mono ?_
            rintro e w10 ⟨Ar, cr, rfl, hcv, _, hb10⟩
            have HB10 := Lib.hid (below_from HB9.out hb10)
            have HOB10 := Lib.hid (block_below HOB3.out hb10)
            have y2 : w10.cell? ⟨wr.heap.size, 1, none⟩ = some (.slice A3 d.length c3) := by simp [World.cell?, HOB10.out]
            have y3 : w10.cell? ⟨wr.heap.size, 2, none⟩ = some (.bool false) := by simp [World.cell?, HOB10.out]
            have HM10 := Lib.hid (HM3.out.below hb10)
            have cv1 := hcv w10 (Below.refl _ _)
            have cv2 := conv_row c3 (HBY.out.below (below_from HB8.out HB10.out)) HBZ.out
            clear hb10 z1 hcv
            go_wp2_with fail
            go_roundw
            case rel => exact ⟨k + 1, _, by omega, by go_num, HM10.out, HSN3.out, HB10.out⟩
            case measure => simp [intOf]; omega
        · obtain rfl : k = l2.length := by omega
          obtain ⟨W1, rfl⟩ : ∃ W1, W1 = wr := ⟨wr, rfl⟩
          rw [List.take_length] at HSN
          have HTW := Lib.hid (HT7.out.below HBR.out)
          have HBW := Lib.hid (below_from HB8.out HBR.out)
          have HORW := Lib.hid (HOR7.out.below HBR.out)
          go_wp2_with fail
          go_loopw [127] (fun i wr => ∃ k : Nat, k ≤ old.length ∧ i = .int .i64 k ∧ Below W1.heap.size W1 wr) (fun i _ => old.length - (intOf i).toNat)
          case atStart => exact ⟨0, by omega, rfl, Below.refl _ _⟩
          case round =>
            obtain ⟨k, hk, rfl, hbr⟩ := hrel
            have HB2 := Lib.hid hbr
            clear hbr
            by_cases hlt : k < old.length
            · obtain ⟨ad, rfl, htx⟩ := (HORW.out.below HB2.out) (by omega)
              obtain ⟨p, hp⟩ : ∃ p, p = old[k] := ⟨_, rfl⟩
              have x1 := htx k hlt
              rw [← hp] at x1
              have hpold : p ∈ (listT now1 F1 now1 ⟨#[]⟩).1 := by rw [HOLD.out, hp]; exact List.getElem_mem hlt
              obtain ⟨hpF, d, hrd⟩ := list_there hpold
              have hps : p.size ≤ maxLen := by
                obtain ⟨f, hf, rfl⟩ := List.mem_map.1 hpF
                have := (HT6.out.files f hf).2.2.2
                unfold maxLen
                omega
              have hrd1 : readT (now1 + 1) F2 now1 p = (d, 0) := by rw [← hrd]; exact read_elder HPU.out (by omega) (by omega) (by omega) (by omega) p
              have HRD1 := Lib.hid hrd1
              have HRD := Lib.hid hrd
              obtain ⟨d2, k2, hrd2⟩ : ∃ d2 k2, readT (now1 + 1) F2 ((now1 : Int) + 1) p = (d2, k2) := ⟨_, _, rfl⟩
              have hsame : memB p (l2.map (·.1)) = false → (d2, k2) = (d, 0) := fun hm => by
                rw [← hrd2, ← hrd]
                exact read_else HPU.out HM.out.rise (fun hin => by rw [memB_true.2 hin] at hm; cases hm)
              have HRD2 := Lib.hid hrd2
              have HSAME := Lib.hid hsame
              clear htx hp hpold hpF hrd hrd1 hrd2 hsame
              go_wp2_with fail
              refine (read_text g b (now1 + 1) now1 p F2 d 0 wr hps (by omega) (HTW.out.below HB2.out) HRD1.out).mono ?_
              rintro e w10 ⟨Ar, cr, rfl, hcv, _, hb10⟩
              have HB10 := Lib.hid (below_from HB2.out hb10)
              have HCV := Lib.hid hcv
              clear hb10 hcv
              go_wp2_with fail
              refine (read_text g b (now1 + 1) _ p F2 d2 k2 w10 hps (by omega) (HTW.out.below HB10.out) HRD2.out).mono ?_
              rintro e w11 ⟨Ar2, cr2, rfl, hcv2, _, hb11⟩
              have HB11 := Lib.hid (below_from HB10.out hb11)
              have hlook := (HMS.out.below HB11.out).look strKeyed Tryd.underlying63 (zeroBool w11) (key := .string p) (keyOf_string_mk Tryd.underlying9 hps)
              have hlk := HSN.out.look p
              cases hmb : memB p (l2.map (·.1)) with
              | true =>
                rw [hmb] at hlk
                have e0 : (Instr.lookup 63 (.map (some w8.heap.size)) (.string p) false).run Tryd.prog w11 = .ok (.bool true) w11 := by rw [hlook]; exact congrArg (fun v => Result.ok v w11) hlk
                clear hlook hlk hmb hcv2 hb11
                go_wp2_with fail
                go_roundw
                case rel => exact ⟨k + 1, by omega, by go_num, HB11.out⟩
                case measure => simp [intOf]; omega
              | false =>
                rw [hmb] at hlk
                have e0 : (Instr.lookup 63 (.map (some w8.heap.size)) (.string p) false).run Tryd.prog w11 = .ok (.bool false) w11 := by rw [hlook]; exact congrArg (fun v => Result.ok v w11) hlk
                have e3 := HSAME.out hmb
                injection e3 with e3 e4
                subst e3 e4
                have cv1 := HCV.out w11 hb11
                have cv2 := hcv2 w11 (Below.refl _ _)
                clear hlook hlk hmb hcv2 hb11
                go_wp2_with fail
                go_roundw
                case rel => exact ⟨k + 1, by omega, by go_num, HB11.out⟩
                case measure => simp [intOf]; omega
            · go_wp2_with fail
              go_ret
              exact ⟨rfl, below_from HBW.out HB2.out⟩
end Go.Proofs.YtmamkegcnacbbaaDoor
