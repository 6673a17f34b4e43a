/-
  The law's head 'locks', of locks alone.
-/
import Derived.Test.YtaaeobdihfbjfaaDoorLockHold
set_option linter.unusedVariables false
set_option linter.unusedSimpArgs false
namespace Go.Proofs.YtaaeobdihfbjfaaDoor
open Go.RowKit
def tA : ByteArray := ⟨#[97]⟩
def tB : ByteArray := ⟨#[98]⟩
def q1 (v : Value) : List LRow := [⟨1, v, [tA, tB], true⟩]
def q2 (v v' : Value) : List LRow := [⟨1, v, [tA, tB], true⟩, ⟨2, v', [tB], false⟩]
def q3 (v' : Value) : List LRow := [⟨2, v', [tB], true⟩]
theorem h_set1 : setGo 0 [] [tA, tB] = .ok [tA, tB] := by kernel_rfl
theorem h_set2 : setGo 0 [] [tB] = .ok [tB] := by kernel_rfl
theorem h_err1 : askErr [] 1 [tA, tB] = .nil := by kernel_rfl
theorem h_has1 : askHas [] 1 [tA, tB] = true := by kernel_rfl
theorem h_next1 (v : Value) : askNext [] 1 [tA, tB] v = q1 v := by
  rw [askNext, h_err1, h_set1, h_has1]; rfl
theorem h_err2 (v : Value) : askErr (q1 v) 2 [tB] = .nil := by kernel_rfl
theorem h_has2 (v : Value) : askHas (q1 v) 2 [tB] = false := by kernel_rfl
theorem h_next2 (v v' : Value) : askNext (q1 v) 2 [tB] v' = q2 v v' := by
  rw [askNext, h_err2, h_set2, h_has2]; rfl
theorem h_q2has (v v' : Value) : hasQ (q2 v v') 1 = true := by kernel_rfl
theorem h_q2waits (v v' : Value) : waitsQ (q2 v v') 2 = true := by kernel_rfl
theorem h_rel (v v' : Value) : relQ (q2 v v') 1 = (q3 v', [2], 0) := by kernel_rfl
theorem h_hold (v' : Value) : holderQ (q3 v') tB = (2, true) := by kernel_rfl
theorem lit1_row (w : World) (s : ByteArray) : TextRow (w.alloc (.cells #[.string s] 9)) (some ⟨w.heap.size, 0, none⟩) [s] := fun _ => ⟨_, rfl, fun k hk => by
  have : k = 0 := by simp at hk; omega
  subst this
  rw [Addr.add_lit, World.cell?_alloc_at _ _ _ _ rfl]
  rfl⟩
theorem lit2_row (w : World) (s t : ByteArray) : TextRow (w.alloc (.cells #[.string s, .string t] 9)) (some ⟨w.heap.size, 0, none⟩) [s, t] := fun _ => ⟨_, rfl, fun k hk => by
  rw [Addr.add_lit, World.cell?_alloc_at _ _ _ _ rfl]
  match k, hk with
  | 0, _ => rfl
  | 1, _ => rfl⟩
theorem small_one : ∀ s ∈ [tB], s.size ≤ 140737488351232 := by decide
theorem small_two : ∀ s ∈ [tA, tB], s.size ≤ 140737488351232 := by decide
set_option maxRecDepth 100000 in
set_option maxHeartbeats 4000000 in
theorem locks_any (w : World) (hg : EnvM w) : Calls Tryd.prog 15 #[] w fun e w' => e = .returned (.bool true) ∧ Below w.heap.size w w' := by
  have HG := Lib.hid hg
  clear hg
  go_enter Tryd.func15, Tryd.ntmps15
  go_wp2_with fail
  refine (new_any w w.heap.size (Nat.le_refl _)).mono ?_
  rintro e w1 ⟨rfl, hb1, hl1⟩
  have HL1 := Lib.hid hl1
  clear hl1
  go_wp2_with fail
  have hb2 : Below w.heap.size w (w1.alloc (.cells #[.string tA, .string tB] 9)) := hb1.alloc hb1.size _
  have HL2 := Lib.hid (HL1.out.below (below_one w1 (.cells #[.string tA, .string tB] 9)))
  have HT2 := Lib.hid (lit2_row w1 tA tB)
  refine (ask_any w.heap.size 1 (some ⟨w1.heap.size, 0, none⟩) 2 [tA, tB] [] (w1.alloc (.cells #[.string tA, .string tB] 9)) (base := w.heap.size) (by simp) HL2.out hb2.size (by simp) HT2.out small_two (HG.out.below hb2)).mono ?_
  rintro e w3 ⟨er, v, rfl, hve, hl3, hb3, _⟩
  rw [h_err1] at hve
  obtain rfl : er = .nilIface := hve
  rw [h_next1] at hl3
  rw [h_has1]
  have HB3 := Lib.hid (Below.trans hb2 hb3)
  have HL3 := Lib.hid hl3
  clear hb1 hb2 hb3 hl3 HL1 HL2 HT2
  go_wp2_with fail
  have hb4 : Below w.heap.size w (w3.alloc (.cells #[.string tB] 9)) := HB3.out.alloc HB3.out.size _
  have HL4 := Lib.hid (HL3.out.below (below_one w3 (.cells #[.string tB] 9)))
  have HT4 := Lib.hid (lit1_row w3 tB)
  refine (ask_any w.heap.size 2 (some ⟨w3.heap.size, 0, none⟩) 1 [tB] (q1 v) (w3.alloc (.cells #[.string tB] 9)) (base := w.heap.size) (by simp [q1]) HL4.out hb4.size (by simp) HT4.out small_one (HG.out.below hb4)).mono ?_
  rintro e w5 ⟨er, v', rfl, hve, hl5, hb5, _⟩
  rw [h_err2] at hve
  obtain rfl : er = .nilIface := hve
  rw [h_next2] at hl5
  rw [h_has2]
  have HB5 := Lib.hid (Below.trans hb4 hb5)
  have HL5 := Lib.hid hl5
  clear hb4 hb5 hl5 HL3 HL4 HT4 HB3
  go_wp2_with fail
  refine (has_any w.heap.size 1 (q2 v v') w5 (by simp [q2]) HL5.out).mono ?_
  rw [h_q2has]
  rintro e w6 ⟨rfl, hb6⟩
  have HL6 := Lib.hid (HL5.out.below hb6)
  have HB6 := Lib.hid (below_from HB5.out hb6)
  go_wp2_with fail
  refine (waits_any w.heap.size 2 (q2 v v') w6 (by simp [q2]) HL6.out).mono ?_
  rw [h_q2waits]
  rintro e w7 ⟨rfl, hb7⟩
  have HL7 := Lib.hid (HL6.out.below hb7)
  have HB7 := Lib.hid (below_from HB6.out hb7)
  clear hb6 hb7 HL5 HL6 HB5 HB6
  go_wp2_with fail
  refine (release_any w.heap.size 1 (q2 v v') w7 (base := w.heap.size) (by simp [q2]) HL7.out HB7.out.size).mono ?_
  rintro e w8 ⟨v8, rfl, ho8, hl8, hb8, _⟩
  rw [h_rel] at ho8 hl8 ⊢
  obtain ⟨A8, c8, hv8, hc8⟩ : ∃ b c, v8 = .slice (some ⟨b, 0, none⟩) 1 c ∧ w8.cell? ⟨b, 0, none⟩ = some (.int .i64 2) := by
    obtain ⟨g, cap, rfl, _⟩ := ho8.form (by simp)
    exact ⟨g, cap, rfl, (ho8.cellAt 0 (by simp)).trans rfl⟩
  subst hv8
  have HL8 := Lib.hid hl8
  have HB8 := Lib.hid (Below.trans HB7.out hb8)
  clear hl8 hb8 ho8 HL7 HB7
  go_wp2_with fail
  refine (holder_any w.heap.size tB (q3 v') w8 (by simp [q3]) HL8.out).mono ?_
  rw [h_hold]
  rintro e w9 ⟨rfl, hb9⟩
  have HL9 := Lib.hid (HL8.out.below hb9)
  have HB9 := Lib.hid (below_from HB8.out hb9)
  have hc9 := cell_below hb9 hc8
  clear hb9 HL8 HB8 hc8
  go_wp2_with fail
  refine (len_any w.heap.size (q3 v') w9 HL9.out).mono ?_
  rintro e w10 ⟨rfl, rfl⟩
  go_wp2_with fail
  go_ret
  exact ⟨rfl, HB9.out⟩
end Go.Proofs.YtaaeobdihfbjfaaDoor
