/-
  A store's List; the law's 'done'.
-/
import Derived.Test.YtlidenehfmlebaaGreatDoorViewFits
set_option linter.unusedVariables false
set_option linter.unusedSimpArgs false
namespace Go.Proofs.YtlidenehfmlebaaGreatDoor
open Go.RowKit Go.Maps Go.WideMaps Go.WideAt
/-- What a store lists. -/
def listV (now : Nat) (F : List FileS) (L : List Int) (v : Int) (root : ByteArray) : List ByteArray × Int := if thereV now L v ≠ 0 then ([], thereV now L v) else listT now F v root
theorem thereV_in {now : Nat} {L : List Int} {v : Int} (h : thereV now L v = 0) : 0 ≤ v ∧ v ≤ (now : Int) := by
  unfold thereV at h
  split at h
  · cases h
  · omega
set_option maxRecDepth 100000 in
set_option maxHeartbeats 4000000 in
theorem slist_any (s g b pm now : Nat) (F : List FileS) (L : List Int) (v : Int) (root : ByteArray) (l : List ByteArray) (k : Int) (w : World) {base : Nat} (hv : (Lit.int .i64 v).wf = true) (hroot : root.size ≤ 140737488351232) (hm : mapN F ≤ 90000) (hst : StoreAt w base s g b pm now F L) (hr : listV now F L v root = (l, k)) :
    Calls Tryz.prog 16 #[.pointer (some ⟨s, 0, none⟩), .int .i64 v, .string root] w fun e w' => ∃ A c, e = .returned (.tuple #[.slice A l.length c, .int .i64 k]) ∧ l.length ≤ c ∧ l.length ≤ 90000 ∧ TextRow w' A l ∧ w'.ownsRow w.heap.size 9 1 (.slice A l.length c) l.length (strs l) ∧ Below w.heap.size w w' := by
  obtain ⟨c0, c1, c2⟩ := store_cells hst
  have HTH := Lib.hid (there_any s g b pm now F L v w hv hst)
  have HST := Lib.hid hst
  clear hst c1 c2
  by_cases h0 : thereV now L v = 0
  · have hr2 : listT now F v root = (l, k) := by rw [← hr, listV, if_neg (by simp [h0])]
    obtain ⟨hv0, hv1⟩ := thereV_in h0
    have hk : k = 0 := by
      have e : (listT now F v root).2 = 0 := by rw [listT, if_neg (by omega)]
      rw [hr2] at e
      exact e
    subst hk
    have HR := Lib.hid hr2
    have H0 := Lib.hid h0
    clear hr hr2 h0
    go_enter Tryz.func16, Tryz.ntmps16
    go_wp2_with fail
    refine HTH.out.mono ?_
    rw [H0.out]
    rintro e w1 ⟨rfl, hb1⟩
    have x0 := cell_below hb1 c0
    have HB1 := Lib.hid hb1
    have hsz := hb1.size
    clear hb1
    go_wp2_with fail
    refine (list_text g b now v root F l w1 hroot hm (HST.out.tree.below HB1.out) hv0 hv1 (by rw [HR.out])).mono ?_
    rintro e w2 ⟨A, c, rfl, h1, h2, h3, ho, hb2⟩
    go_wp2_with fail
    go_ret2
    exact ⟨A, c, rfl, h1, h2, h3, own_mono ho hsz, below_from HB1.out hb2⟩
  · have hr2 : (([] : List ByteArray), thereV now L v) = (l, k) := by rw [← hr, listV, if_pos h0]
    injection hr2 with e1 e2
    subst e1
    have d1 : (thereV now L v == 0) = false := by rw [beq_eq_false_iff_ne]; exact h0
    obtain ⟨t, ht⟩ : ∃ t, t = thereV now L v := ⟨_, rfl⟩
    rw [← ht] at d1 e2 HTH
    subst e2
    clear hr h0 ht
    go_enter Tryz.func16, Tryz.ntmps16
    go_wp2_with fail
    refine HTH.out.mono ?_
    rintro e w1 ⟨rfl, hb1⟩
    have HB1 := Lib.hid hb1
    clear hb1
    go_wp2_with fail
    go_ret2
    exact ⟨none, 0, rfl, by simp, by simp, fun h => by simp at h, ⟨rfl, .inl ⟨rfl, rfl⟩⟩, HB1.out⟩
/-- What an operation comes to. -/
inductive DidV (now : Nat) (F : List FileS) (L : List Int) : OpV → Int → Int → Nat → List FileS → List Int → Prop
  | refused (n : Int) (cs : List ChgD) : chkT now F cs ≠ .nil → DidV now F L (0, n, cs) (chkT now F cs).num 0 now F L
  | made (n : Int) (cs : List ChgD) (B : Nat) (F1 F' : List FileS) : chkT now F cs = .nil → Puts (now + 1) B F cs F1 → Forgot ((now + 1 : Nat) : Int) L F1 F' → DidV now F L (0, n, cs) 0 ((now : Int) + 1) (now + 1) F' L
  | full (n : Int) (cs : List ChgD) : L.length = 64 → DidV now F L (1, n, cs) 3 0 now F L
  | pinned (n : Int) (cs : List ChgD) : L.length ≠ 64 → DidV now F L (1, n, cs) 0 now now F (L ++ [(now : Int)])
  | missing (n : Int) (cs : List ChgD) : n ∉ L → DidV now F L (2, n, cs) 4 0 now F L
  | less (n : Int) (cs : List ChgD) : n ∈ L → n ∈ L.erase n → DidV now F L (2, n, cs) 0 0 now F (L.erase n)
  | gone (n : Int) (cs : List ChgD) (F' : List FileS) : n ∈ L → n ∉ L.erase n → Forgot (now : Int) (L.erase n) F F' → DidV now F L (2, n, cs) 0 0 now F' (L.erase n)
  | other (k n : Int) (cs : List ChgD) : k ≠ 0 → k ≠ 1 → k ≠ 2 → DidV now F L (k, n, cs) 0 0 now F L
def DonePost (s g b pm now : Nat) (o : OpV) (F : List FileS) (L : List Int) (base : Nat) (w : World) (e : Ending) (w' : World) : Prop :=
  ∃ k ver now' F' L', e = .returned (.tuple #[.int .i64 k, .int .i64 ver]) ∧ DidV now F L o k ver now' F' L' ∧ mapN F' ≤ mapN F + o.2.2.length ∧ StoreAt w' base s g b pm now' F' L' ∧ Below base w w' ∧ SFrame w w'
set_option maxRecDepth 100000 in
set_option maxHeartbeats 4000000 in
theorem done_any (s g b pm now : Nat) (kd nn : Int) (A : Option Addr) (c : Nat) (cs : List ChgD) (F : List FileS) (L : List Int) (w : World) {base : Nat} (hn : (Lit.int .i64 nn).wf = true) (hL : L.length ≤ 1000) (hl : cs.length ≤ 1000) (hlr : ∀ W, Below base w W → ChgRow W A cs) (hlc : cs.length ≤ c) (hgood : ∀ x ∈ cs, GoodC x) (hm : mapN F ≤ 80000) (hnow : now ≤ 1048576) (hrise : RiseF now F) (hbase : base ≤ w.heap.size) (hst : StoreAt w base s g b pm now F L) (hg : ∀ W, Below base w W → Env W) :
    Calls Tryz.prog 10 #[.pointer (some ⟨s, 0, none⟩), .agg #[.int .i64 kd, .int .i64 nn, .slice A cs.length c]] w (DonePost s g b pm now (kd, nn, cs) F L base w) := by
  have HST := Lib.hid hst
  have HG := Lib.hid hg
  have HLR := Lib.hid hlr
  have HGOOD := Lib.hid hgood
  have HRI := Lib.hid hrise
  clear hst hg hlr hgood hrise
  have hb0 := below_one w (.cells #[.int .i64 kd, .int .i64 nn, .slice A cs.length c] 37)
  have HB0 := Lib.hid hb0
  have hsz : w.heap.size ≤ (w.alloc (.cells #[.int .i64 kd, .int .i64 nn, .slice A cs.length c] 37)).heap.size := hb0.size
  have hbs1 := Nat.le_trans hbase hsz
  have HBB := Lib.hid (hb0.mono hbase)
  have HSF := Lib.hid (SFrame.of_below hb0)
  clear hb0 hsz
  by_cases h0 : kd = 0
  · subst h0
    go_enter Tryz.func10, Tryz.ntmps10
    go_wp2_with fail
    refine (scommit_any s g b pm now A c cs F L _ (base := base) hL hl (fun W hW _ => HLR.out W (HBB.out.trans hW)) HGOOD.out hm hnow HRI.out hbs1 (HST.out.below HB0.out) (HG.out _ HBB.out).ml).mono ?_
    rintro e w2 (⟨hno, t, v, rfl, hev, hs2, hb2⟩ | ⟨hc, B, F1, F', rfl, hpu, hfo, hsz2, hs2, hb2, hf2⟩)
    · have HNO := Lib.hid hno
      have HS2 := Lib.hid hs2
      have HB2 := Lib.hid (below_from HB0.out hb2)
      have HN := Lib.hid (number (.iface t v) (chkT now F cs) w2 hev (HG.out _ (HB2.out.mono hbase)))
      clear hno hev hs2 hb2
      go_wp2_with fail
      refine HN.out.mono ?_
      rintro e w3 ⟨rfl, hb3⟩
      have HB3 := Lib.hid (below_from HB2.out hb3)
      have HS3 := Lib.hid (HS2.out.below hb3)
      clear hb3
      go_wp2_with fail
      go_ret2
      exact ⟨_, _, now, F, L, rfl, .refused nn cs HNO.out, by omega, HS3.out, HB3.out.mono hbase, SFrame.of_below HB3.out⟩
    · have HC := Lib.hid hc
      have HPU := Lib.hid hpu
      have HFO := Lib.hid hfo
      have HS2 := Lib.hid hs2
      have HB2 := Lib.hid (HBB.out.trans hb2)
      have HF2 := Lib.hid (HSF.out.trans hf2)
      have HSZ := Lib.hid hsz2
      have HN := Lib.hid (number .nilIface .nil w2 rfl (HG.out _ HB2.out))
      clear hc hpu hfo hs2 hb2 hf2 hsz2
      go_wp2_with fail
      refine HN.out.mono ?_
      rintro e w3 ⟨rfl, hb3⟩
      have HB3 := Lib.hid (HB2.out.trans (hb3.mono (Nat.le_trans hbase HB2.out.size)))
      have HF3 := Lib.hid (HF2.out.trans (SFrame.of_below hb3))
      have HS3 := Lib.hid (HS2.out.below hb3)
      clear hb3
      go_wp2_with fail
      go_ret2
      exact ⟨_, _, now + 1, F', L, rfl, .made nn cs B F1 F' HC.out HPU.out HFO.out, HSZ.out, HS3.out, HB3.out, HF3.out⟩
  · have d0 : (kd == 0) = false := by simpa using h0
    by_cases h1 : kd = 1
    · subst h1
      go_enter Tryz.func10, Tryz.ntmps10
      go_wp2_with fail
      refine (pin_any s g b pm now F L _ (base := base) (by omega) (by omega) hbs1 (HST.out.below HB0.out)).mono ?_
      rintro e w2 (⟨h64, rfl, hb2⟩ | ⟨h64, rfl, hs2, hb2, hf2⟩)
      · have H64 := Lib.hid h64
        have HB2 := Lib.hid (below_from HB0.out hb2)
        have HS2 := Lib.hid ((HST.out.below HB0.out).below hb2)
        clear hb2 h64
        go_wp2_with fail
        go_ret2
        exact ⟨_, _, now, F, L, rfl, .full nn cs H64.out, by omega, HS2.out, HB2.out.mono hbase, SFrame.of_below HB2.out⟩
      · have H64 := Lib.hid h64
        have HB2 := Lib.hid (HBB.out.trans hb2)
        have HF2 := Lib.hid (HSF.out.trans hf2)
        have HS2 := Lib.hid hs2
        clear hb2 h64 hf2 hs2
        go_wp2_with fail
        go_ret2
        exact ⟨_, _, now, F, _, rfl, .pinned nn cs H64.out, by omega, HS2.out, HB2.out, HF2.out⟩
    · have d1 : (kd == 1) = false := by simpa using h1
      by_cases h2 : kd = 2
      · subst h2
        go_enter Tryz.func10, Tryz.ntmps10
        go_wp2_with fail
        refine (unpin_any s g b pm now F L nn _ (base := base) hn hL (by omega) (by omega) HRI.out hbs1 (HST.out.below HB0.out)).mono ?_
        rintro e w2 (⟨hno, rfl, hb2⟩ | ⟨hin, F', rfl, hsame, hfo, hsz2, hs2, hb2, hf2⟩)
        · have HNO := Lib.hid hno
          have HB2 := Lib.hid (below_from HB0.out hb2)
          have HS2 := Lib.hid ((HST.out.below HB0.out).below hb2)
          clear hb2 hno
          go_wp2_with fail
          go_ret2
          exact ⟨_, _, now, F, L, rfl, .missing nn cs HNO.out, by omega, HS2.out, HB2.out.mono hbase, SFrame.of_below HB2.out⟩
        · have HIN := Lib.hid hin
          have HSAME := Lib.hid hsame
          have HFO := Lib.hid hfo
          have HSZ := Lib.hid hsz2
          have HB2 := Lib.hid (HBB.out.trans hb2)
          have HF2 := Lib.hid (HSF.out.trans hf2)
          have HS2 := Lib.hid hs2
          clear hb2 hin hsame hfo hsz2 hf2 hs2
          go_wp2_with fail
          go_ret2
          refine ⟨_, _, now, F', _, rfl, ?_, by have := HSZ.out; omega, HS2.out, HB2.out, HF2.out⟩
          by_cases hie : nn ∈ L.erase nn
          · rw [HSAME.out hie]
            exact .less nn cs HIN.out hie
          · exact .gone nn cs F' HIN.out hie (HFO.out hie)
      · have d2 : (kd == 2) = false := by simpa using h2
        go_enter Tryz.func10, Tryz.ntmps10
        go_wp2_with fail
        go_ret2
        exact ⟨_, _, now, F, L, rfl, .other kd nn cs h0 h1 h2, by omega, HST.out.below HB0.out, HBB.out, HSF.out⟩
end Go.Proofs.YtlidenehfmlebaaGreatDoor
