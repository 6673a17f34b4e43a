/-
  tidy, Commit.
-/
import Derived.Test.YtlidenehfmlebaaGreatDoorViewOps2
set_option linter.unusedVariables false
set_option linter.unusedSimpArgs false
namespace Go.Proofs.YtlidenehfmlebaaGreatDoor
open Go.RowKit Go.Maps Go.WideMaps Go.WideAt
theorem needR_congr {now : Int} {K L : List Int} (h : ∀ v, v ∈ K ↔ v ∈ L) (s : SRow) (rest : List SRow) : needR now K s rest = needR now L s rest := by
  unfold needR
  congr 1
  rw [Bool.eq_iff_iff, List.any_eq_true, List.any_eq_true]
  constructor
  · rintro ⟨v, hv, e⟩
    exact ⟨v, (h v).1 hv, e⟩
  · rintro ⟨v, hv, e⟩
    exact ⟨v, (h v).2 hv, e⟩
theorem keptR_congr {now : Int} {K L : List Int} (h : ∀ v, v ∈ K ↔ v ∈ L) : ∀ rows, keptR now K rows = keptR now L rows
  | [] => rfl
  | s :: rest => by rw [keptR, keptR, needR_congr h, keptR_congr h rest]
theorem forgetR_congr {now : Int} {K L : List Int} (h : ∀ v, v ∈ K ↔ v ∈ L) (rows : List SRow) : forgetR now K rows = forgetR now L rows := by
  unfold forgetR
  rw [keptR_congr h]
theorem Forgot.congr {now : Int} {K L : List Int} {F F' : List FileS} (hf : Forgot now K F F') (h : ∀ v, v ∈ K ↔ v ∈ L) : Forgot now L F F' := by
  unfold Forgot at hf ⊢
  rw [hf]
  congr 1
  exact List.map_congr_left (fun f _ => by rw [forgetR_congr h])
theorem StoreAt.forgot {w w' : World} {base s g b pm now : Nat} {F F' : List FileS} {L : List Int} (h : StoreAt w base s g b pm now F L) (ht : TreeAt w' base g b now F') (hg : w.grownBy w' (some b)) : StoreAt w' base s g b pm now F' L := by
  obtain ⟨m, h1, h2⟩ := h.pins
  refine ⟨(hg.block s (lt_of_block h.cell) (fun e => ?_)).trans h.cell, h.hs, h.hp, h.ne, ht, m, h1.grown hg (fun e => h.ne (by injection e)), h2⟩
  injection e with e
  exact h.tree.noCells _ _ _ (by rw [← e]; exact h.cell)
def TidyPost (s g b pm now : Nat) (F : List FileS) (L : List Int) (base : Nat) (w : World) (e : Ending) (w' : World) : Prop :=
  ∃ F', e = .returned (.tuple #[]) ∧ Forgot now L F F' ∧ mapN F' ≤ mapN F ∧ StoreAt w' base s g b pm now F' L ∧ Below base w w' ∧ SFrame w w'
set_option maxRecDepth 100000 in
set_option maxHeartbeats 4000000 in
theorem tidy_any (s g b pm now : Nat) (F : List FileS) (L : List Int) (w : World) {base : Nat} (hL : L.length ≤ 1000) (hm : mapN F ≤ 90000) (hnow : now ≤ 2097152) (hrise : RiseF now F) (hbase : base ≤ w.heap.size) (hst : StoreAt w base s g b pm now F L) :
    Calls Tryz.prog 46 #[.pointer (some ⟨s, 0, none⟩)] w (TidyPost s g b pm now F L base w) := by
  have hbd : Below w.heap.size w w.drew := Below.drew (Below.refl _ _)
  have HSD := Lib.hid (hst.below hbd)
  have HBD := Lib.hid hbd
  have c0 := (store_cells hst).1
  have HRI := Lib.hid hrise
  clear hst hrise hbd
  go_enter Tryz.func46, Tryz.ntmps46
  go_wp2_with fail
  go_region_with (first
    | (go_at_call 13
       refine (pinned_any s g b pm now F L w.drew (by omega) HSD.out).mono ?_
       rintro e w2 ⟨A, c, K, rfl, hso, hkl, how, hb2⟩
       have hs2 := HSD.out.below hb2
       have x0 := (store_cells hs2).1
       have HB2 := Lib.hid (below_from HBD.out hb2)
       have HS2 := Lib.hid hs2
       have HSO := Lib.hid hso
       have HIR : Hid (IntRow w2 A K) := Lib.hid (by
         obtain ⟨A', c', e1, _, h1⟩ := own_intRow how
         injection e1 with e1
         rw [e1]
         exact h1)
       clear hs2 hso how hb2)
    | (go_at_call 69
       refine (forget_any g b now A c K F w2 (by omega) HIR.out (HS2.out.tree.small hm).2 (HS2.out.tree.small hm).1 HRI.out hnow HS2.out.tree (Nat.le_trans hbase HB2.out.size)).mono ?_
       rintro e w3 ⟨F', n, rfl, hn, hf, ht, hg⟩))
  all_goals
    go_wp2_with fail
    go_end0
    have hB : Below base w w3 := (HB2.out.mono hbase).grown hg (Nat.le_trans hbase HB2.out.size) (fun j hj => by injection hj with hj; rw [← hj]; exact HS2.out.tree.hb)
    exact ⟨F', rfl, hf.congr HSO.out.mem, by omega, HS2.out.forgot ht hg, hB, (SFrame.of_below HB2.out).trans (SFrame.of_map hg HS2.out.tree.noCells)⟩
/-- A store stays while its tree's changes are made. -/
theorem StoreAt.committed {w w' : World} {base s g b pm now now' : Nat} {F F' : List FileS} {L : List Int} (h : StoreAt w base s g b pm now F L) (ht : TreeAt w' base g b now' F') (hf : TFrame b w w') : StoreAt w' base s g b pm now' F' L := by
  obtain ⟨m, h1, h2⟩ := h.pins
  obtain ⟨es, ck, hmp⟩ := h1.isMap
  refine ⟨?_, h.hs, h.hp, h.ne, ht, m, ?_, h2⟩
  · refine (hf.block s (lt_of_block h.cell) (fun e => h.tree.noCells _ _ _ (by rw [← e]; exact h.cell)) (fun cs t hc => ?_)).trans h.cell
    rw [h.cell] at hc
    injection hc with hc
    injection hc with _ e2
    rw [← e2]
    exact ⟨by decide, by decide⟩
  · exact h1.block (hf.block pm (lt_of_block hmp) h.ne (fun cs t hc => by rw [hmp] at hc; cases hc))
/-- What Commit comes to: refused, or made, and tidied. -/
def SCommitPost (s g b pm now : Nat) (l : List ChgD) (F : List FileS) (L : List Int) (base : Nat) (w : World) (e : Ending) (w' : World) : Prop :=
  (chkT now F l ≠ .nil ∧ ∃ t v, e = .returned (.tuple #[.int .i64 0, .iface t v]) ∧ ErrV w' (.iface t v) (chkT now F l) ∧ StoreAt w' base s g b pm now F L ∧ Below w.heap.size w w') ∨
  (chkT now F l = .nil ∧ ∃ B F1 F', e = .returned (.tuple #[.int .i64 ((now : Int) + 1), .nilIface]) ∧ Puts (now + 1) B F l F1 ∧ Forgot ((now + 1 : Nat) : Int) L F1 F' ∧ mapN F' ≤ mapN F + l.length ∧ StoreAt w' base s g b pm (now + 1) F' L ∧ Below base w w' ∧ SFrame w w')
set_option maxRecDepth 100000 in
set_option maxHeartbeats 4000000 in
theorem scommit_any (s g b pm now : Nat) (A : Option Addr) (c : Nat) (l : List ChgD) (F : List FileS) (L : List Int) (w : World) {base : Nat} (hL : L.length ≤ 1000) (hl : l.length ≤ 1000) (hlr : ∀ W, Below base w W → TFrame b w W → ChgRow W A l) (hgood : ∀ x ∈ l, GoodC x) (hm : mapN F ≤ 80000) (hnow : now ≤ 1048576) (hrise : RiseF now F) (hbase : base ≤ w.heap.size) (hst : StoreAt w base s g b pm now F L) (hg : EnvM w) :
    Calls Tryz.prog 19 #[.pointer (some ⟨s, 0, none⟩), .slice A l.length c] w (SCommitPost s g b pm now l F L base w) := by
  have c0 := (store_cells hst).1
  have hsm := hst.tree.small hm
  have HCA := Lib.hid (commit_any g b now A c l F w hl hlr hgood (fun f hf => Nat.le_trans (hsm.2 f hf) (by omega)) (Nat.le_trans hsm.1 (by omega)) hnow hst.tree hbase hg)
  have HST := Lib.hid hst
  have HRI := Lib.hid hrise
  clear hlr hgood hst hg hrise hsm
  go_enter Tryz.func19, Tryz.ntmps19
  go_wp2_with fail
  refine HCA.out.mono ?_
  intro e w1 hp
  rcases hp with ⟨hno, t, v, rfl, hev, ht, hb⟩ | ⟨hc, F1, rfl, hpu, ht, hb, hf⟩
  · have HNO := Lib.hid hno
    have HEV := Lib.hid hev
    have HB := Lib.hid hb
    clear hno hev ht hb
    go_wp2_with fail
    go_ret2
    exact .inl ⟨HNO.out, t, v, rfl, HEV.out, HST.out.below HB.out, HB.out⟩
  · have hs1 := HST.out.committed ht hf
    have hri1 := (rise_puts hpu HRI.out (chkT_once hc).1).1
    have hsz := (puts_size hpu HST.out.tree.once).1
    have HS1 := Lib.hid hs1
    have HRI1 := Lib.hid hri1
    have HC := Lib.hid hc
    have HPU := Lib.hid hpu
    have HB := Lib.hid hb
    have HF := Lib.hid (SFrame.of_tree hf HST.out.tree.noCells)
    have hbs := hb.size
    have hm1 : mapN F1 ≤ 90000 := by omega
    have HSZ := Lib.hid hsz
    clear hs1 hri1 hsz hc hpu ht hb hf
    go_wp2_with fail
    refine (tidy_any s g b pm (now + 1) F1 L w1 hL hm1 (by omega) HRI1.out (Nat.le_trans hbase hbs) HS1.out).mono ?_
    rintro e w2 ⟨F', rfl, hfo, hle, hs2, hb2, hf2⟩
    have HFO := Lib.hid hfo
    have HS2 := Lib.hid hs2
    have HB2 := Lib.hid (HB.out.trans hb2)
    have HF2 := Lib.hid (HF.out.trans hf2)
    have HLE := Lib.hid hle
    clear hfo hs2 hb2 hf2 hle
    go_wp2_with fail
    go_ret2
    exact .inr ⟨HC.out, _, F1, F', rfl, HPU.out, HFO.out, by have := HLE.out; have := HSZ.out; omega, HS2.out, HB2.out, HF2.out⟩
end Go.Proofs.YtlidenehfmlebaaGreatDoor
