/-
  The reference's Has, Put, Release.
-/
import Derived.Test.YtaaeobdihfbjfaaDoorRefLk
set_option linter.unusedVariables false
set_option linter.unusedSimpArgs false
namespace Go.Proofs.YtaaeobdihfbjfaaDoor
open Go.RowKit Go.Sort
def sigR (q : List RRow) : List (Int × List ByteArray) := q.map RRow.sig
theorem sigR_get {q : List RRow} {i : Nat} (h : i < q.length) : (sigR q).getD i (0, []) = (q[i].who, q[i].paths) := by simp [sigR, List.getD, h, RRow.sig]
theorem canS_no {q : List RRow} {i k : Nat} (hi : i < q.length) (hk : k < i) (h : meetB (q[k]'(by omega)).paths q[i].paths = true) : canS (sigR q) i = false := by
  unfold canS
  rw [sigR_get hi]
  simp only [Bool.not_eq_false']
  refine List.any_eq_true.2 ⟨(q[k].who, q[k].paths), ?_, h⟩
  exact List.mem_take_iff_getElem.2 ⟨k, by simp [sigR]; omega, by simp [sigR, RRow.sig]⟩
theorem canS_yes {q : List RRow} {i : Nat} (hi : i < q.length) (h : ∀ k (hk : k < q.length), k < i → meetB q[k].paths q[i].paths = false) : canS (sigR q) i = true := by
  unfold canS
  rw [sigR_get hi]
  simp only [Bool.not_eq_true', List.any_eq_false]
  intro a ha
  obtain ⟨k, hk, rfl⟩ := List.mem_take_iff_getElem.1 ha
  have hkq : k < q.length := by simp [sigR] at hk; omega
  have := h k hkq (by simp [sigR] at hk; omega)
  simp [sigR, RRow.sig, this]
set_option maxRecDepth 100000 in
set_option maxHeartbeats 4000000 in
theorem rhas_any (v : Value) (i : Nat) (q : List RRow) (w : World) {base : Nat} (hq : q.length ≤ 1000) (hi : i < q.length) (hr : AsksAt w base v q) :
    Calls Tryd.prog 25 #[v, .int .i64 i] w fun e w' => e = .returned (.bool (canS (sigR q) i)) ∧ Below w.heap.size w w' := by
  obtain ⟨A, c, rfl, hcap, hrows⟩ := hr.form
  obtain ⟨b, rfl, hcell⟩ := hrows (by omega)
  have HR := Lib.hid hr
  have HC := Lib.hid hcell
  clear hr hcell hrows
  go_enter Tryd.func25, Tryd.ntmps25
  go_wp2_with fail
  go_loopw [5] (fun s wr => ∃ k : Nat, k ≤ i ∧ s = .int .i64 k ∧ Below w.heap.size w wr ∧ ∀ j (hj : j < q.length), j < k → meetB q[j].paths q[i].paths = false) (fun s _ => i - (intOf s).toNat)
  case atStart => exact ⟨0, by omega, rfl, Below.refl _ _, fun j hj h => by omega⟩
  case round =>
    obtain ⟨k, hk, rfl, hb, hno⟩ := hrel
    have HNO := Lib.hid hno
    clear hno
    by_cases hlt : k < i
    · have hkq : k < q.length := by omega
      obtain ⟨x1, x2⟩ := HC.out k hkq
      obtain ⟨y1, y2⟩ := HC.out i hi
      obtain ⟨A1, c1, e1, t1, z1, l1⟩ := (HR.out.below hb).path hkq
      obtain ⟨A2, c2, e2, t2, z2, l2⟩ := (HR.out.below hb).path hi
      rw [e1] at x2
      rw [e2] at y2
      replace x1 := cell_below hb x1
      replace x2 := cell_below hb x2
      replace y1 := cell_below hb y1
      replace y2 := cell_below hb y2
      have HM := Lib.hid (fun W (hW : Below wr.heap.size wr W) => rmeet_any q[k].who q[i].who A1 A2 c1 c2 q[k].paths q[i].paths W (t1.below hW) (t2.below hW) z1 z2 l1 l2)
      clear e1 e2 t1 t2 z1 z2 l1 l2
      have k1 := cell_regrown x1
      have k2 := cell_regrown x2
      have k3 := cell_regrown y1
      have k4 := cell_regrown y2
      cases hm : meetB q[k].paths q[i].paths with
      | true =>
        have HNO2 := Lib.hid (canS_no hi hlt hm)
        have cM : ∀ d os, Calls Tryd.prog 59 #[.agg #[.int .i64 q[k].who, .slice A1 q[k].paths.length c1], .agg #[.int .i64 q[i].who, .slice A2 q[i].paths.length c2]] (grow (redrawn wr d) os) fun e w'' => e = .returned (.bool true) ∧ ∃ p : Regrown, w'' = grow (redrawn wr p.d) p.os := fun d os => Calls.regrown_of (hm ▸ HM.out _ (below_regrown wr d os))
        go_wp2_with fail
        refine wp_region_quiet_below (by kernel_rfl) (by kernel_rfl) ?_
        repeat (quiet_step (exact cM _ _))
        refine wpQuiet_nil ?_
        intro _ hw'
        obtain ⟨⟨dq, osq⟩, hw''⟩ := hw'
        subst hw''
        have hb2 := below_from hb (below_regrown wr dq osq)
        generalize grow (redrawn wr dq) osq = w5 at *
        go_wp2_with fail
        go_ret
        exact ⟨ret_bool HNO2.out.symm, hb2⟩
      | false =>
        have HMF := Lib.hid hm
        have cM : ∀ d os, Calls Tryd.prog 59 #[.agg #[.int .i64 q[k].who, .slice A1 q[k].paths.length c1], .agg #[.int .i64 q[i].who, .slice A2 q[i].paths.length c2]] (grow (redrawn wr d) os) fun e w'' => e = .returned (.bool false) ∧ ∃ p : Regrown, w'' = grow (redrawn wr p.d) p.os := fun d os => Calls.regrown_of (hm ▸ HM.out _ (below_regrown wr d os))
        go_wp2_with fail
        refine wp_region_quiet_below (by kernel_rfl) (by kernel_rfl) ?_
        repeat (quiet_step (exact cM _ _))
        refine wpQuiet_nil ?_
        intro _ hw'
        obtain ⟨⟨dq, osq⟩, hw''⟩ := hw'
        subst hw''
        have hb2 := below_from hb (below_regrown wr dq osq)
        generalize grow (redrawn wr dq) osq = w5 at *
        go_wp2_with fail
        go_roundw
        case rel => exact ⟨k + 1, by omega, by go_num, hb2, fun j hj h => by
          by_cases e : j = k
          · subst e; exact HMF.out
          · exact HNO.out j hj (by omega)⟩
        case measure => simp [intOf]; omega
    · have HY := Lib.hid (canS_yes hi (fun k' hk' hlt' => HNO.out k' hk' (by omega)))
      obtain rfl : k = i := by omega
      go_wp2
      go_ret
      exact ⟨ret_bool HY.out.symm, hb⟩
end Go.Proofs.YtaaeobdihfbjfaaDoor
