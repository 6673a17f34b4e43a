/-
  slices.Clone at bytes; (*Tree).Read, Now.
-/
import Derived.Test.YtlidenehfmlebaaGreatDoorTree
import Derived.Lib.SliceRun
set_option linter.unusedVariables false
set_option linter.unusedSimpArgs false
namespace Go.Proofs.YtlidenehfmlebaaGreatDoor
open Go.RowKit Go.Maps Go.WideMaps
open Go.Proofs.YtlidenehfmlebaaGreatDoorW.PrintWords (Kd ReadsRow)
/-- Bytes that are read. -/
def ByteRow (w : World) (A : Option Addr) (l : List Int) : Prop := ∀ ad, A = some ad → ∀ j u, (u8V l)[j]? = some u → w.cell? (ad.add j) = some u
theorem ByteRow.below {w w' : World} {A : Option Addr} {l : List Int} (h : ByteRow w A l) (hb : Below w.heap.size w w') : ByteRow w' A l := fun ad e j u hj => cell_below hb (h ad e j u hj)
theorem u8V_one (l : List Int) : ∀ u ∈ u8V l, u.oneCell' = true := fun u hu => by
  obtain ⟨x, _, rfl⟩ := List.mem_map.1 hu
  rfl
theorem infoU8 : (Tryz.prog.info? 5).map (fun i => (i.zero, i.size, i.bytes)) = some (some (.int .u8 0), 1, 1) := by kernel_rfl
theorem own_bytes {w : World} {base : Nat} {v : Value} {l : List Int} (h : w.ownsRow base 5 1 v l.length (u8V l)) : ∃ A c, v = .slice A l.length c ∧ l.length ≤ c ∧ ByteRow w A l ∧ (A = none → l.length = 0) := by
  have h' := h
  rcases h.2 with ⟨rfl, h0⟩ | ⟨g, cap, cur, rfl, _, _, hc, _⟩
  · exact ⟨none, 0, by rw [h0], by omega, (fun ad e => by cases e), fun _ => h0⟩
  · refine ⟨_, cap, rfl, hc, fun ad e j u hj => ?_, (fun e => by cases e)⟩
    cases e
    rw [Addr.add_lit, Nat.zero_add]
    have hlt := (List.getElem?_eq_some_iff.1 hj).1
    have hl : (u8V l).length = l.length := by simp [u8V]
    exact (h'.cellAt j (by omega)).trans hj
set_option maxRecDepth 100000 in
set_option maxHeartbeats 4000000 in
theorem clone_any (A : Option Addr) (c : Nat) (l : List Int) (w : World) (hl : l.length ≤ 300000) (hA : A = none → l.length = 0) (hr : ByteRow w A l) :
    Calls Tryz.prog 67 #[.slice A l.length c] w fun e w' => ∃ v, e = .returned v ∧ w'.ownsRow w.heap.size 5 1 v l.length (u8V l) ∧ Below w.heap.size w w' := by
  cases A with
  | none =>
    have h0 := hA rfl
    have hl0 : l = [] := List.length_eq_zero_iff.1 h0
    subst hl0
    clear hr hA
    have hnil := Go.Lib.run_eql_slice_nil (P := Tryz.prog) w 55 5 none 0 c 0 0 Tryz.underlying55
    go_enter Tryz.func67, Tryz.ntmps67
    go_wp2_with fail
    go_ret
    exact ⟨_, rfl, ⟨rfl, .inl ⟨rfl, rfl⟩⟩, Below.refl _ _⟩
  | some ad =>
    obtain ⟨i0, hi0, hz0, hz1, hz2⟩ := info_parts infoU8
    have hb1 := below_one w (.cells #[] 5)
    have hsrc : Hid (∀ j u, (u8V l)[j]? = some u → (w.alloc (.cells #[] 5)).cell? (ad.add j) = some u) := fun j u hj => cell_below hb1 (hr ad rfl j u hj)
    have hown : Hid ((w.alloc (.cells #[] 5)).ownsRow w.heap.size 5 1 (.slice (some ⟨w.heap.size, 0, none⟩) 0 0) 0 []) := World.ownsRow_lit w #[] 0 (Nat.le_refl _) (by simp) (by simp)
    have hlen : Hid ((u8V l).length = l.length * 1) := by show _ = _; simp [u8V]
    clear hr hA
    have hnil := Go.Lib.run_eql_slice_nil (P := Tryz.prog) w 55 5 (some ad) l.length c 0 0 Tryz.underlying55
    go_enter Tryz.func67, Tryz.ntmps67
    go_wp2_with (at_builtin; go_loud (refine wpList_append_own _ rfl (.tmp 5) (.tmp 6) 55 rfl w.heap.size 5 i0 (.int .u8 0) 1 1 Tryz.underlying55 hi0 hz0 hz1 hz2 rfl (by decide) (.slice (some ⟨w.heap.size, 0, none⟩) 0 0) 0 [] (by simp [Act.eval, Act.put]) hown.out ad l.length c (u8V l) (by simp [Act.eval, Act.put]) hlen.out hsrc.out (u8V_one l) (by unfold maxLen; omega) (by omega) (by simp) ?_); intro v' w' ho' hg' _)
    go_ret
    refine ⟨_, rfl, by simpa using ho', hb1.grown hg' hb1.size (fun k hk => ?_)⟩
    have : w.heap.size = k := by simpa [Value.ownBlock] using hk
    omega
/-- What a file reads as at a version, and the error's number. -/
def readT (now : Nat) (F : List FileS) (v : Int) (p : ByteArray) : List Int × Int :=
  if v < 0 ∨ (now : Int) < v then ([], 1) else match atRow F v p with
    | some r => if r.gone then ([], 4) else (r.data, 0)
    | none => ([], 4)
theorem lastK_mem {rows : List SRow} {v : Int} {r : SRow} : ∀ k, k ≤ rows.length → lastK rows v k = some r → r ∈ rows
  | 0, _, h => by cases h
  | k + 1, hk, h => by
    rw [lastK] at h
    split at h
    · injection h with h
      have : rows.getD k zS = rows[k] := by simp [List.getD, show k < rows.length by omega]
      rw [← h, this]
      exact List.getElem_mem _
    · exact lastK_mem k (by omega) h
theorem atRow_mem {F : List FileS} {v : Int} {p : ByteArray} {r : SRow} (h : atRow F v p = some r) : ∃ f ∈ F, r ∈ f.rows := by
  unfold atRow at h
  cases hf : fileOf F p with
  | none => rw [hf] at h; cases h
  | some f =>
    rw [hf] at h
    exact ⟨f, (file_mem hf).1, lastK_mem _ (Nat.le_refl _) h⟩
theorem TreeAt.data {w : World} {base g b now : Nat} {F : List FileS} (h : TreeAt w base g b now F) {v : Int} {p : ByteArray} {r : SRow} (hr : atRow F v p = some r) : DataAt w base r := by
  obtain ⟨f, hf, hrf⟩ := atRow_mem hr
  exact (h.files f hf).2.2.1 r hrf
set_option maxRecDepth 100000 in
set_option maxHeartbeats 4000000 in
theorem read_any (g b now : Nat) (v : Int) (p : ByteArray) (F : List FileS) (w : World) {base : Nat} (hp : p.size ≤ maxLen) (hr : ∀ f ∈ F, f.rows.length ≤ 100000) (ht : TreeAt w base g b now F) :
    Calls Tryz.prog 41 #[.pointer (some ⟨g, 0, none⟩), .int .i64 v, .string p] w fun e w' => ∃ u, e = .returned (.tuple #[u, .int .i64 (readT now F v p).2]) ∧ w'.ownsRow w.heap.size 5 1 u (readT now F v p).1.length (u8V (readT now F v p).1) ∧ Below w.heap.size w w' := by
  obtain ⟨c0, c1⟩ := tree_cells ht
  have HT := Lib.hid ht
  have HAT := Lib.hid (at_any g b now v p F w hp hr ht)
  clear ht hr c1
  by_cases h1 : v < 0
  · have d1 : decide (v < 0) = true := decide_eq_true h1
    have HR : Hid (readT now F v p = ([], 1)) := Lib.hid (by rw [readT, if_pos (.inl h1)])
    go_enter Tryz.func41, Tryz.ntmps41
    go_wp2_with fail
    go_ret2
    refine ⟨.slice none 0 0, ?_⟩
    rw [HR.out]
    exact ⟨rfl, ⟨rfl, .inl ⟨rfl, rfl⟩⟩, Below.refl _ _⟩
  · have d1 : decide (v < 0) = false := decide_eq_false h1
    by_cases h2 : (now : Int) < v
    · have d2 : decide ((now : Int) < v) = true := decide_eq_true h2
      have HR : Hid (readT now F v p = ([], 1)) := Lib.hid (by rw [readT, if_pos (.inr h2)])
      go_enter Tryz.func41, Tryz.ntmps41
      go_wp2_with fail
      go_ret2
      refine ⟨.slice none 0 0, ?_⟩
      rw [HR.out]
      exact ⟨rfl, ⟨rfl, .inl ⟨rfl, rfl⟩⟩, Below.refl _ _⟩
    · have d2 : decide ((now : Int) < v) = false := decide_eq_false h2
      have hnot : ¬ (v < 0 ∨ (now : Int) < v) := by omega
      cases hrow : atRow F v p with
      | none =>
        have HR : Hid (readT now F v p = ([], 4)) := Lib.hid (by rw [readT, if_neg hnot, hrow])
        have HW := Lib.hid hrow
        clear hrow hnot h1 h2
        go_enter Tryz.func41, Tryz.ntmps41
        go_wp2_with fail
        refine HAT.out.mono ?_
        rw [HW.out]
        rintro e w2 ⟨rfl, hb2⟩
        simp only [atV]
        go_wp2_with fail
        go_ret2
        refine ⟨.slice none 0 0, ?_⟩
        rw [HR.out]
        exact ⟨rfl, ⟨rfl, .inl ⟨rfl, rfl⟩⟩, hb2⟩
      | some r =>
        have HW := Lib.hid hrow
        cases hg : r.gone with
        | true =>
          have HR : Hid (readT now F v p = ([], 4)) := Lib.hid (by rw [readT, if_neg hnot, hrow]; simp [hg])
          have HGN := Lib.hid hg
          clear hrow hnot h1 h2 hg
          go_enter Tryz.func41, Tryz.ntmps41
          go_wp2_with fail
          refine HAT.out.mono ?_
          rw [HW.out]
          rintro e w2 ⟨rfl, hb2⟩
          simp only [atV, HGN.out]
          go_wp2_with fail
          go_ret2
          refine ⟨.slice none 0 0, ?_⟩
          rw [HR.out]
          exact ⟨rfl, ⟨rfl, .inl ⟨rfl, rfl⟩⟩, hb2⟩
        | false =>
          have HR : Hid (readT now F v p = (r.data, 0)) := Lib.hid (by rw [readT, if_neg hnot, hrow]; simp [hg])
          have HGN := Lib.hid hg
          have HD := Lib.hid (HT.out.data hrow)
          obtain ⟨A, c, hv, hlc, hbr, hA⟩ := own_bytes HD.out.1
          have HBR := Lib.hid hbr
          have HA := Lib.hid hA
          have HV := Lib.hid hv
          have hl3 := HD.out.2.2
          clear hrow hnot h1 h2 hg hbr hA hv
          go_enter Tryz.func41, Tryz.ntmps41
          go_wp2_with fail
          refine HAT.out.mono ?_
          rw [HW.out]
          rintro e w2 ⟨rfl, hb2⟩
          simp only [atV, HGN.out, HV.out]
          go_wp2_with fail
          refine (clone_any A c r.data _ hl3 HA.out (HBR.out.below hb2)).mono ?_
          rintro e w3 ⟨u, rfl, ho3, hb3⟩
          go_wp2_with fail
          go_ret2
          refine ⟨u, ?_⟩
          rw [HR.out]
          exact ⟨rfl, own_mono ho3 hb2.size, below_from hb2 hb3⟩
set_option maxRecDepth 100000 in
theorem now_any (g b now : Nat) (F : List FileS) (w : World) {base : Nat} (ht : TreeAt w base g b now F) :
    Calls Tryz.prog 11 #[.pointer (some ⟨g, 0, none⟩)] w fun e w' => e = .returned (.int .i64 now) ∧ w' = w := by
  obtain ⟨c0, c1⟩ := tree_cells ht
  clear ht
  go_enter Tryz.func11, Tryz.ntmps11
  go_wp2
  go_ret
  exact ⟨rfl, rfl⟩
end Go.Proofs.YtlidenehfmlebaaGreatDoor
