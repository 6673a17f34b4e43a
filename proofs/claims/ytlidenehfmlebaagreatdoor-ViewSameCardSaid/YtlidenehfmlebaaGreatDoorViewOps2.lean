/-
  Pin.
-/
import Derived.Test.YtlidenehfmlebaaGreatDoorViewOps
import Derived.Deep.RegionHeld3
import Derived.Deep.DrawnRows
import Derived.Deep.RegionWith
import Derived.IntWalk
import Derived.Outline
set_option linter.unusedVariables false
set_option linter.unusedSimpArgs false
namespace Go.Proofs.YtlidenehfmlebaaGreatDoor
open Go.RowKit Go.Maps Go.WideMaps Go.WideAt
theorem PinsIn.put {m : Lit → Option Value} {L : List Int} (h : PinsIn m L) (v : Int) : PinsIn (upd m (keyI v) (.int .i64 ((L.count v : Nat) + 1 : Int))) (L ++ [v]) := by
  refine ⟨fun x => ?_, fun kl hkl => by rw [upd_other (hkl v)]; exact h.oth kl hkl⟩
  rw [List.count_append]
  by_cases e : x = v
  · subst e
    rw [upd_same (kl := keyI x) trivial]
    have : List.count x [x] = 1 := by simp
    rw [this, if_neg (by omega)]
    congr 2
  · have h0 : List.count x [v] = 0 := List.count_eq_zero.2 (by simpa using e)
    rw [upd_other (keyI_ne e), h.val x, h0, Nat.add_zero]
theorem PinsIn.less {m : Lit → Option Value} {L : List Int} (h : PinsIn m L) {v : Int} (hv : 2 ≤ L.count v) : PinsIn (upd m (keyI v) (.int .i64 ((L.count v : Nat) - 1 : Int))) (L.erase v) := by
  refine ⟨fun x => ?_, fun kl hkl => by rw [upd_other (hkl v)]; exact h.oth kl hkl⟩
  rw [List.count_erase]
  by_cases e : x = v
  · subst e
    rw [upd_same (kl := keyI x) trivial]
    simp only [beq_self_eq_true, if_true]
    rw [if_neg (by omega)]
    congr 2
    omega
  · have h0 : (v == x) = false := by rw [beq_eq_false_iff_ne]; exact fun e2 => e e2.symm
    rw [upd_other (keyI_ne e), h.val x, h0]
    simp
theorem PinsIn.gone {m : Lit → Option Value} {L : List Int} (h : PinsIn m L) {v : Int} {u : Value} (hv : L.count v = 1) : PinsIn (del (upd m (keyI v) u) (keyI v)) (L.erase v) := by
  refine ⟨fun x => ?_, fun kl hkl => by rw [del_other (hkl v), upd_other (hkl v)]; exact h.oth kl hkl⟩
  rw [List.count_erase]
  by_cases e : x = v
  · subst e
    rw [del_same (kl := keyI x) trivial]
    simp only [beq_self_eq_true, if_true]
    rw [if_pos (by omega)]
  · have h0 : (v == x) = false := by rw [beq_eq_false_iff_ne]; exact fun e2 => e e2.symm
    rw [del_other (keyI_ne e), upd_other (keyI_ne e), h.val x, h0]
    simp
def PinPost (s g b pm now : Nat) (F : List FileS) (L : List Int) (base : Nat) (w : World) (e : Ending) (w' : World) : Prop :=
  (L.length = 64 ∧ e = .returned (.tuple #[.int .i64 0, .int .i64 3]) ∧ Below w.heap.size w w') ∨
  (L.length ≠ 64 ∧ e = .returned (.tuple #[.int .i64 now, .int .i64 0]) ∧ StoreAt w' base s g b pm now F (L ++ [(now : Int)]) ∧ Below base w w' ∧ SFrame w w')
set_option maxRecDepth 100000 in
set_option maxHeartbeats 4000000 in
theorem pin_any (s g b pm now : Nat) (F : List FileS) (L : List Int) (w : World) {base : Nat} (hL : L.length ≤ 100000) (hnow : now ≤ 2097152) (hbase : base ≤ w.heap.size) (hst : StoreAt w base s g b pm now F L) :
    Calls Tryz.prog 29 #[.pointer (some ⟨s, 0, none⟩)] w (PinPost s g b pm now F L base w) := by
  obtain ⟨c0, c1, c2⟩ := store_cells hst
  have HST := Lib.hid hst
  by_cases h64 : L.length = 64
  · have d1 : (((L.length : Nat) : Int) == 64) = true := by rw [h64]; rfl
    have H64 := Lib.hid h64
    clear h64 hst
    go_enter Tryz.func29, Tryz.ntmps29
    go_wp2_with fail
    go_ret2
    exact .inl ⟨H64.out, rfl, Below.refl _ _⟩
  · have d1 : (((L.length : Nat) : Int) == 64) = false := by rw [beq_eq_false_iff_ne]; omega
    have f2 : w.frozen? ⟨s, 2, none⟩ = false := frozen_of_row w s 2 _ _ hst.cell
    obtain ⟨z1, z2, z3, z4, z5, z6⟩ := store_set hst ((L.length : Int) + 1) hbase
    obtain ⟨m, hm, hp⟩ := hst.pins
    have HZ1 := Lib.hid z1
    have HZ2 := Lib.hid z2
    have HZ3 := Lib.hid z3
    have HZ4 := Lib.hid z4
    have HM := Lib.hid (z5 m _ hm)
    have HP := Lib.hid hp
    have H64 := Lib.hid h64
    have hne := hst.ne
    have hbp := hst.hp
    have hkey := keyOf_int_mk (P := Tryz.prog) Tryz.underlying3 (a := (now : Int)) (by simp [Lit.wf, IntKind.min, IntKind.max, IntKind.signed, IntKind.bits]; omega)
    have hcnt : L.count (now : Int) ≤ 100000 := Nat.le_trans List.count_le_length hL
    clear z1 z2 z3 z4 z5 z6 hm hp h64 hst
    go_enter Tryz.func29, Tryz.ntmps29
    go_wp2_with fail
    generalize hW1 : w.setCell ⟨s, 2, none⟩ (.int .i64 ((L.length : Int) + 1)) = W1 at *
    have y0 : W1.cell? ⟨s, 0, none⟩ = some (.pointer (some ⟨g, 0, none⟩)) := by simp [World.cell?, HZ1.out]
    have y1 : W1.cell? ⟨s, 1, none⟩ = some (.map (some pm)) := by simp [World.cell?, HZ1.out]
    have hbd : Below W1.heap.size W1 W1.drew := Below.drew (Below.refl _ _)
    have hbd2 := hbd
    have HBD2 := Lib.hid hbd2
    have HTD := Lib.hid (HZ4.out.below hbd)
    have HMD := Lib.hid (HM.out.below hbd)
    have hlook : (Instr.lookup 44 (.map (some pm)) (.int .i64 now) false).run Tryz.prog W1.drew = .ok (.int .i64 ((L.count (now : Int) : Nat) : Int)) W1.drew := by
      rw [HMD.out.look intKeyed Tryz.underlying44 (zeroIntV W1.drew) (key := .int .i64 now) hkey]
      exact congrArg (fun v => Result.ok v W1.drew) (HP.out.get now)
    obtain ⟨w2, hrun2, hm2, hg2⟩ := HMD.out.store intKeyed Tryz.underlying44 (by unfold maxLen; omega) (key := .int .i64 now) (.int .i64 (((L.count (now : Int) : Nat) : Int) + 1)) hkey
    have HM2 := Lib.hid hm2
    have HG2 := Lib.hid hg2
    have hwrap : IntKind.i64.wrap (((L.count (now : Int) : Nat) : Int) + 1) = ((L.count (now : Int) : Nat) : Int) + 1 := IntWalk.i64_in _ (by omega)
    clear hm2 hg2 hW1 c0 c1 c2 hbd hbd2
    obtain ⟨es, ck, hmp⟩ := HMD.out.isMap
    have hB2 : Below base w w2 := (HZ2.out.drew).grown HG2.out (by have := HZ2.out.size; show base ≤ W1.heap.size; omega) (fun j hj => by injection hj with hj; omega)
    have hF2 : SFrame w w2 := (HZ3.out.trans (SFrame.of_below HBD2.out)).trans (SFrame.of_map HG2.out (map_noCells hmp))
    have hT2 := HTD.out.map_other hmp hne HG2.out
    have HB2 := Lib.hid hB2
    have HF2 := Lib.hid hF2
    have HT2 := Lib.hid hT2
    have HS2 : Hid (StoreAt w2 base s g b pm now F (L ++ [(now : Int)])) := Lib.hid ⟨by
        have h1 := HZ1.out
        have hlen : (L ++ [(now : Int)]).length = L.length + 1 := by simp
        have e1 : (((L ++ [(now : Int)]).length : Nat) : Int) = (L.length : Int) + 1 := by rw [hlen]; omega
        rw [e1]
        refine (HG2.out.block s (lt_of_block h1) (fun e => ?_)).trans h1
        injection e with e
        exact map_noCells hmp _ _ _ (by rw [← e]; exact h1), HST.out.hs, HST.out.hp, hne, hT2, _, HM2.out.mono (by simp), HP.out.put now⟩
    have x0 := (store_cells HS2.out).1
    clear hmp hB2 hF2 hT2 f2
    go_region_with (go_at_call 11; refine (now_any g b now F W1.drew HTD.out).mono ?_; rintro e w' ⟨rfl, rfl⟩)
    all_goals
      clear hwrap hlook hrun2 y0 y1
      go_wp2_with fail
      refine (now_any g b now F w2 HT2.out).mono ?_
      rintro e w3 ⟨rfl, rfl⟩
      go_wp2_with fail
      go_ret2
      exact .inr ⟨H64.out, rfl, HS2.out, HB2.out, HF2.out⟩
end Go.Proofs.YtlidenehfmlebaaGreatDoor
