/-
  Unpin.
-/
import Derived.Test.YtlidenehfmlebaaGreatDoorViewTidy
set_option linter.unusedVariables false
set_option linter.unusedSimpArgs false
namespace Go.Proofs.YtlidenehfmlebaaGreatDoor
open Go.RowKit Go.Maps Go.WideMaps Go.WideAt
def UnpinPost (s g b pm now : Nat) (F : List FileS) (L : List Int) (v : Int) (base : Nat) (w : World) (e : Ending) (w' : World) : Prop :=
  (v ∉ L ∧ e = .returned (.int .i64 4) ∧ Below w.heap.size w w') ∨
  (v ∈ L ∧ ∃ F', e = .returned (.int .i64 0) ∧ (v ∈ L.erase v → F' = F) ∧ (v ∉ L.erase v → Forgot now (L.erase v) F F') ∧ mapN F' ≤ mapN F ∧ StoreAt w' base s g b pm now F' (L.erase v) ∧ Below base w w' ∧ SFrame w w')
theorem erase_len {L : List Int} {v : Int} (h : v ∈ L) : (((L.erase v).length : Nat) : Int) = (L.length : Int) - 1 := by
  have h1 := List.length_erase_of_mem h
  have h2 := List.length_pos_of_mem h
  omega
set_option maxRecDepth 100000 in
set_option maxHeartbeats 4000000 in
theorem unpin_any (s g b pm now : Nat) (F : List FileS) (L : List Int) (v : Int) (w : World) {base : Nat} (hv : (Lit.int .i64 v).wf = true) (hL : L.length ≤ 1000) (hm : mapN F ≤ 90000) (hnow : now ≤ 2097152) (hrise : RiseF now F) (hbase : base ≤ w.heap.size) (hst : StoreAt w base s g b pm now F L) :
    Calls Tryz.prog 30 #[.pointer (some ⟨s, 0, none⟩), .int .i64 v] w (UnpinPost s g b pm now F L v base w) := by
  obtain ⟨c0, c1, c2⟩ := store_cells hst
  obtain ⟨m, hm0, hp⟩ := hst.pins
  have hkey := keyOf_int_mk (P := Tryz.prog) Tryz.underlying3 (a := v) hv
  have hlook := hm0.look intKeyed Tryz.underlying44 (zeroIntV w) (key := .int .i64 v) hkey
  have hlk : (m (Lit.int .i64 v)).getD (.int .i64 0) = .int .i64 ((L.count v : Nat) : Int) := hp.get v
  rw [hlk] at hlook
  clear hlk
  by_cases hvL : v ∈ L
  · have hc : 0 < L.count v := List.count_pos_iff.2 hvL
    have hcl : L.count v ≤ 1000 := Nat.le_trans List.count_le_length hL
    have hlp := List.length_pos_of_mem hvL
    have d1 : (((L.count v : Nat) : Int) == 0) = false := by rw [beq_eq_false_iff_ne]; omega
    have f2 : w.frozen? ⟨s, 2, none⟩ = false := frozen_of_row w s 2 _ _ hst.cell
    obtain ⟨z1, z2, z3, z4, z5, z6⟩ := store_set hst ((L.length : Int) - 1) hbase
    have hm1 := z5 m _ hm0
    have hlook1 := hm1.look intKeyed Tryz.underlying44 (zeroIntV _) (key := .int .i64 v) hkey
    have hlk : (m (Lit.int .i64 v)).getD (.int .i64 0) = .int .i64 ((L.count v : Nat) : Int) := hp.get v
    rw [hlk] at hlook1
    obtain ⟨w2, hrun2, hm2, hg2⟩ := hm1.store intKeyed Tryz.underlying44 (by unfold maxLen; omega) (key := .int .i64 v) (.int .i64 (((L.count v : Nat) : Int) - 1)) hkey
    obtain ⟨es, ck, hmp⟩ := hm1.isMap
    have hlook2 := hm2.look intKeyed Tryz.underlying44 (zeroIntV _) (key := .int .i64 v) hkey
    have hup : (upd m (Lit.int .i64 v) (.int .i64 (((L.count v : Nat) : Int) - 1)) (Lit.int .i64 v)).getD (.int .i64 0) = .int .i64 (((L.count v : Nat) : Int) - 1) := by
      rw [upd_same (kl := Lit.int .i64 v) trivial]; rfl
    rw [hup] at hlook2
    obtain ⟨es2, ck2, hmp2⟩ := hm2.isMap
    have hcell2 : w2.heap[s]? = some (Obj.cells #[.pointer (some ⟨g, 0, none⟩), .map (some pm), .int .i64 ((L.length : Int) - 1)] 46 (0, 0)) := (hg2.block s (lt_of_block z1) (fun e => by
      injection e with e
      exact map_noCells hmp _ _ _ (by rw [← e]; exact z1))).trans z1
    have y0 : (w.setCell ⟨s, 2, none⟩ (.int .i64 ((L.length : Int) - 1))).cell? ⟨s, 1, none⟩ = some (.map (some pm)) := by simp [World.cell?, z1]
    have y1 : w2.cell? ⟨s, 1, none⟩ = some (.map (some pm)) := by simp [World.cell?, hcell2]
    have hT2 := z4.map_other hmp hst.ne hg2
    have hB2 : Below base w w2 := z2.grown hg2 (by have := z2.size; omega) (fun j hj => by injection hj with hj; have := hst.hp; omega)
    have hF2 : SFrame w w2 := z3.trans (SFrame.of_map hg2 (map_noCells hmp))
    by_cases h1 : L.count v = 1
    · have hnot : v ∉ L.erase v := fun hm => by
        have := List.count_pos_iff.2 hm
        rw [List.count_erase_self] at this
        omega
      have d2 : ((((L.count v : Nat) : Int) - 1) == 0) = true := by rw [h1]; rfl
      obtain ⟨w3, hrun3, hm3, hg3⟩ := hm2.drop intKeyed Tryz.underlying44 (key := .int .i64 v) hkey 0
      have hp3 := hp.gone (v := v) (u := .int .i64 (((L.count v : Nat) : Int) - 1)) h1
      have hT3 := hT2.map_other hmp2 hst.ne hg3
      have hB3 : Below base w w3 := hB2.grown hg3 (by have := hB2.size; omega) (fun j hj => by injection hj with hj; have := hst.hp; omega)
      have hF3 : SFrame w w3 := hF2.trans (SFrame.of_map hg3 (map_noCells hmp2))
      have hm3' : MapAs w3 Tryz.prog 3 pm (L.erase v).length (del (upd m (keyI v) (.int .i64 (((L.count v : Nat) : Int) - 1))) (keyI v)) := by
        have h := hm3.tight intKeyed (ks := (L.erase v).map keyI) (fun kl _ hs => hp3.keys kl hs)
        rw [List.length_map] at h
        exact h
      have hS3 : StoreAt w3 base s g b pm now F (L.erase v) := ⟨by
        rw [erase_len hvL]
        refine (hg3.block s (lt_of_block hcell2) (fun e => ?_)).trans hcell2
        injection e with e
        exact map_noCells hmp2 _ _ _ (by rw [← e]; exact hcell2), hst.hs, hst.hp, hst.ne, hT3, _, hm3', hp3⟩
      have HS3 := Lib.hid hS3
      have HB3 := Lib.hid hB3
      have HF3 := Lib.hid hF3
      have HRI := Lib.hid hrise
      have HVL := Lib.hid hvL
      have HNOT := Lib.hid hnot
      have hbs3 : base ≤ w3.heap.size := Nat.le_trans hbase hB3.size
      have hel : (L.erase v).length ≤ 1000 := Nat.le_trans List.length_erase_le hL
      clear hst hrise z1 z2 z3 z4 z5 z6 hm0 hp hm1 hm2 hm3 hg2 hg3 hmp hmp2 hcell2 hT2 hT3 hB2 hB3 hF2 hF3 hm3' hp3 hS3 hlk hup hvL hnot h1
      go_enter Tryz.func30, Tryz.ntmps30
      go_wp2_with fail
      refine (tidy_any s g b pm now F (L.erase v) w3 hel hm hnow HRI.out hbs3 HS3.out).mono ?_
      rintro e w4 ⟨F', rfl, hfo, hle, hs4, hb4, hf4⟩
      have HFO := Lib.hid hfo
      have HS4 := Lib.hid hs4
      have HB4 := Lib.hid (HB3.out.trans hb4)
      have HF4 := Lib.hid (HF3.out.trans hf4)
      have HLE := Lib.hid hle
      clear hfo hs4 hb4 hf4 hle
      go_wp2_with fail
      go_ret
      exact .inr ⟨HVL.out, F', rfl, fun h => absurd h HNOT.out, fun _ => HFO.out, HLE.out, HS4.out, HB4.out, HF4.out⟩
    · have hin : v ∈ L.erase v := by
        refine List.count_pos_iff.1 ?_
        rw [List.count_erase_self]
        omega
      have d2 : ((((L.count v : Nat) : Int) - 1) == 0) = false := by rw [beq_eq_false_iff_ne]; omega
      have hp3 := hp.less (v := v) (by omega)
      have hm3' : MapAs w2 Tryz.prog 3 pm (L.erase v).length (upd m (keyI v) (.int .i64 (((L.count v : Nat) : Int) - 1))) := by
        have h := hm2.tight intKeyed (ks := (L.erase v).map keyI) (fun kl _ hs => hp3.keys kl hs)
        rw [List.length_map] at h
        exact h
      have hS3 : StoreAt w2 base s g b pm now F (L.erase v) := ⟨by
        rw [erase_len hvL]
        exact hcell2, hst.hs, hst.hp, hst.ne, hT2, _, hm3', hp3⟩
      have HS3 := Lib.hid hS3
      have HB3 := Lib.hid hB2
      have HF3 := Lib.hid hF2
      have HVL := Lib.hid hvL
      have HIN := Lib.hid hin
      clear hst hrise z1 z2 z3 z4 z5 z6 hm0 hp hm1 hm2 hg2 hmp hmp2 hcell2 hT2 hB2 hF2 hm3' hp3 hS3 hlk hup hvL hin h1
      go_enter Tryz.func30, Tryz.ntmps30
      go_wp2_with fail
      go_ret
      exact .inr ⟨HVL.out, F, rfl, fun _ => rfl, fun h => absurd HIN.out h, Nat.le_refl _, HS3.out, HB3.out, HF3.out⟩
  · have hc : L.count v = 0 := List.count_eq_zero.2 hvL
    rw [hc] at hlook
    have HVL := Lib.hid hvL
    clear hst hrise hm0 hp hc hvL
    go_enter Tryz.func30, Tryz.ntmps30
    go_wp2_with fail
    go_ret
    exact .inl ⟨HVL.out, rfl, Below.refl _ _⟩
end Go.Proofs.YtlidenehfmlebaaGreatDoor
