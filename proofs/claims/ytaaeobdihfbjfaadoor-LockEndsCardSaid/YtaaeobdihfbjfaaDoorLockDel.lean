/-
  slices.Delete of one ask.
-/
import Derived.Test.YtaaeobdihfbjfaaDoorLockAsk
set_option linter.unusedVariables false
set_option linter.unusedSimpArgs false
namespace Go.Proofs.YtaaeobdihfbjfaaDoor
open Go.RowKit
theorem setCell_grown (w : World) (g o : Nat) (v : Value) : w.grownBy (w.setCell ⟨g, o, none⟩ v) (some g) := ⟨rfl, rfl, rfl, by simp, fun k _ hk => heap_setCell_other w ⟨g, o, none⟩ k v (fun e => hk (by simp [e]))⟩
theorem grown_trans {a b c : World} {row : Option Nat} (h1 : a.grownBy b row) (h2 : b.grownBy c row) : a.grownBy c row :=
  ⟨h2.os.trans h1.os, h2.tape.trans h1.tape, h2.output.trans h1.output, Nat.le_trans h1.size h2.size, fun k hk hne => (h2.block k (Nat.lt_of_lt_of_le hk h1.size) hne).trans (h1.block k hk hne)⟩
theorem setCells_grown (g : Nat) : ∀ (vs : List Value) (o : Nat) (w : World), w.grownBy (w.setCells g o vs) (some g)
  | [], _, w => ⟨rfl, rfl, rfl, Nat.le_refl _, fun _ _ _ => rfl⟩
  | v :: r, o, w => grown_trans (setCell_grown w g o v) (setCells_grown g r (o + 1) _)
theorem setCells_heap (g : Nat) (e : TypeId) : ∀ (vs : List Value) (o : Nat) (w : World) (cur : Array Value), w.heap[g]? = some (.cells cur e (0, 0)) → o + vs.length ≤ cur.size →
    ∃ cur', (w.setCells g o vs).heap[g]? = some (.cells cur' e (0, 0)) ∧ cur'.size = cur.size ∧ ∀ j, cur'[j]? = if o ≤ j ∧ j < o + vs.length then vs[j - o]? else cur[j]?
  | [], o, w, cur, h, _ => ⟨cur, h, rfl, fun j => by rw [if_neg (fun hh => by have := hh.1; have := hh.2; simp at *; omega)]⟩
  | v :: r, o, w, cur, h, hl => by
    simp only [List.length_cons] at hl
    obtain ⟨cur', h1, h2, h3⟩ := setCells_heap g e r (o + 1) (w.setCell ⟨g, o, none⟩ v) (cur.setIfInBounds o v) (heap_setCell_same w g o cur e v h) (by simp; omega)
    refine ⟨cur', h1, by rw [h2]; simp, fun j => ?_⟩
    rw [h3 j]
    by_cases hj : j = o
    · subst hj
      have hlt : j < cur.size := by omega
      rw [if_neg (by omega), if_pos (by simp)]
      simp [hlt]
    · by_cases hin : o + 1 ≤ j ∧ j < o + 1 + r.length
      · rw [if_pos hin, if_pos (by simp; omega)]
        have : j - o = (j - (o + 1)) + 1 := by omega
        rw [this, List.getElem?_cons_succ]
      · rw [if_neg hin, if_neg (by simp; omega)]
        rw [Array.getElem?_setIfInBounds]
        rw [if_neg (by omega)]
theorem flat_take (q : List LRow) : ∀ i, flat (q.take i) = (flat q).take (i * 3) := by
  induction q with
  | nil => intro i; simp [flat]
  | cons a r ih =>
    intro i
    cases i with
    | zero => simp [flat]
    | succ i =>
      have e : (i + 1) * 3 = i * 3 + 3 := by omega
      rw [e]
      have := ih i
      simp only [flat, List.take_succ_cons, List.flatMap_cons, LRow.cells, List.cons_append, List.nil_append] at this ⊢
      rw [this]
theorem flat_drop (q : List LRow) : ∀ i, flat (q.drop i) = (flat q).drop (i * 3) := by
  induction q with
  | nil => intro i; simp [flat]
  | cons a r ih =>
    intro i
    cases i with
    | zero => simp [flat]
    | succ i =>
      have e : (i + 1) * 3 = i * 3 + 3 := by omega
      rw [e]
      have := ih i
      simp only [flat, List.drop_succ_cons, List.flatMap_cons, LRow.cells, List.cons_append, List.nil_append] at this ⊢
      rw [this]
theorem flat_erase (q : List LRow) (i : Nat) : flat (q.eraseIdx i) = (flat q).take (i * 3) ++ (flat q).drop ((i + 1) * 3) := by
  rw [List.eraseIdx_eq_take_drop_succ, flat_append, flat_take, flat_drop]
set_option maxRecDepth 100000 in
set_option maxHeartbeats 4000000 in
theorem delete_any (base b n c i : Nat) (q : List LRow) (w : World) (hn : q.length = n) (hi : i < n) (hnl : n ≤ 1000) (hval : ∀ a ∈ q, a.val.oneCell' = true) (hrow : w.ownsRow base 116 3 (.slice (some ⟨b, 0, none⟩) n c) n (flat q)) :
    Calls Tryd.prog 54 #[.slice (some ⟨b, 0, none⟩) n c, .int .i64 i, .int .i64 ((i : Int) + 1)] w fun e w' => e = .returned (.slice (some ⟨b, 0, none⟩) (n - 1 : Nat) c) ∧ w.grownBy w' (some b) ∧ w'.ownsRow base 116 3 (.slice (some ⟨b, 0, none⟩) (n - 1) c) (n - 1) (flat (q.eraseIdx i)) := by
  have hcn : n ≤ c ∧ c ≤ maxLen := by
    rcases hrow.2 with ⟨hn, _⟩ | ⟨b', cap, cur, hn, hb, hh, h1, h2, _⟩
    · simp at hn
    · simp at hn
      obtain ⟨_, rfl⟩ := hn
      exact ⟨h1, h2⟩
  obtain ⟨m, rfl⟩ : ∃ m, n = i + 1 + m := ⟨n - (i + 1), by omega⟩
  have HR := Lib.hid hrow
  clear hrow
  go_enter Tryd.func54, Tryd.ntmps54
  go_wp2_with fail
  obtain ⟨i0, hi0, hz0, hz1, hz2⟩ := info_parts infoAsk
  obtain ⟨news, hnews⟩ : ∃ news, news = (flat q).drop ((i + 1) * 3) := ⟨_, rfl⟩
  have hnl2 : news.length = m * 3 := by rw [hnews, List.length_drop, flat_length, hn]; omega
  have hget : ∀ t u, news[t]? = some u → (flat q)[(i + 1) * 3 + t]? = some u := fun t u h => by rw [← h, hnews, List.getElem?_drop]
  obtain ⟨A, hA, hsrc⟩ : ∃ A : Addr, (if c = i + 1 then some (⟨b, 0, none⟩ : Addr) else some ⟨b, (i + 1) * 3, none⟩) = some A ∧ Hid (∀ t u, news[t]? = some u → w.drew.cell? (A.add t) = some u) := by
    by_cases h : c = i + 1
    · refine ⟨⟨b, 0, none⟩, by simp [h], fun t u hu => ?_⟩
      have h0 : news = [] := List.length_eq_zero_iff.1 (by rw [hnl2]; have : m = 0 := by omega
                                                           rw [this])
      rw [h0] at hu
      simp at hu
    · refine ⟨⟨b, (i + 1) * 3, none⟩, by simp [h], fun t u hu => ?_⟩
      have h1 := hget t u hu
      have hlt := (List.getElem?_eq_some_iff.1 h1).1
      rw [flat_length, hn] at hlt
      rw [Addr.add_lit]
      exact (HR.out.cellAt ((i + 1) * 3 + t) (by omega)).trans h1
  have hone : Hid (∀ u ∈ news, u.oneCell' = true) := by
    intro u hu
    rw [hnews] at hu
    obtain ⟨a, ha, hu2⟩ := List.mem_flatMap.1 (List.mem_of_mem_drop hu)
    simp [LRow.cells] at hu2
    rcases hu2 with rfl | rfl | rfl
    · rfl
    · exact hval a ha
    · rfl
  have hspare : Hid (∀ j, j < news.length → (w.drew.cell? ⟨b, 0 + i * 3 + j, none⟩).isSome = true ∧ w.drew.frozen? ⟨b, 0 + i * 3 + j, none⟩ = false) := by
    intro j hj
    rw [hnl2] at hj
    have hlt : i * 3 + j < (flat q).length := by rw [flat_length, hn]; omega
    refine ⟨?_, HR.out.frozenAt _⟩
    have e : w.drew.cell? ⟨b, 0 + i * 3 + j, none⟩ = (flat q)[0 + i * 3 + j]? := HR.out.cellAt (0 + i * 3 + j) (by omega)
    rw [e, List.getElem?_eq_getElem (by omega)]
    rfl
  have HN := Lib.hid hnews
  have HNL := Lib.hid hnl2
  clear hnews hnl2 hget
  have h01 : (0 : Int) ≤ (i : Int) + 1 := by omega
  have h02 : (i : Int) + 1 ≤ (i : Int) + 1 + (m : Int) := by omega
  have h03 : i + 1 + m - (i + 1) = m := by omega
  have hic : (i : Int) ≤ (c : Int) := by omega
  go_region_law (refine step_append_room rfl (.tmp 22) (.tmp 25) 109 rfl 116 i0 3 Tryd.underlying109 hi0 hz1 b 0 i c (by simp [Act.eval, Act.put]) A m (c - (i + 1)) news (by simp [Act.eval, Act.put, hA]) HNL.out hsrc.out hone.out (by omega) hspare.out ?_)
  obtain ⟨cur, hcur, hcs, hct⟩ : ∃ cur, w.heap[b]? = some (.cells cur 116 (0, 0)) ∧ cur.size = c * 3 ∧ cur.toList.take ((i + 1 + m) * 3) = flat q := by
    rcases HR.out.2 with ⟨hn, _⟩ | ⟨b', cap, cur, hn, hb, hh, h1, h2, h3, h4⟩
    · simp at hn
    · simp at hn
      obtain ⟨rfl, rfl⟩ := hn
      exact ⟨cur, hh, h3, h4⟩
  have hbb : base ≤ b := (HR.out.lt b rfl).1
  obtain ⟨cur1, hcur1, hcs1, hct1⟩ := setCells_heap b 116 news (i * 3) w.drew cur hcur (by rw [HNL.out, hcs]; omega)
  have hg1 : w.drew.grownBy (w.drew.setCells b (i * 3) news) (some b) := setCells_grown b news (i * 3) w.drew
  generalize w.drew.setCells b (i * 3) news = W1 at *
  have hsome : ∀ j, j < 3 → ∃ u, W1.cell? ⟨b, (i + m) * 3 + j, none⟩ = some u := fun j hj => by
    have hlt : (i + m) * 3 + j < cur1.size := by rw [hcs1, hcs]; omega
    exact ⟨cur1[(i + m) * 3 + j], by rw [cell_of_row W1 b _ cur1 _ _ hcur1, Array.getElem?_eq_getElem hlt]⟩
  obtain ⟨u0, hu0⟩ := hsome 0 (by omega)
  obtain ⟨u1, hu1⟩ := hsome 1 (by omega)
  obtain ⟨u2, hu2⟩ := hsome 2 (by omega)
  simp only [Nat.add_zero] at hu0
  have hf0 : W1.frozen? ⟨b, (i + m) * 3, none⟩ = false := frozen_of_row W1 b _ cur1 _ hcur1
  have hf1 : W1.frozen? ⟨b, (i + m) * 3 + 1, none⟩ = false := frozen_of_row W1 b _ cur1 _ hcur1
  have hf2 : W1.frozen? ⟨b, (i + m) * 3 + 2, none⟩ = false := frozen_of_row W1 b _ cur1 _ hcur1
  have h04 : i + 1 + m - (i + m) = 1 := by omega
  have h05 : (i : Int) + (m : Int) ≤ (i : Int) + 1 + (m : Int) := by omega
  have h06 : (0 : Int) ≤ (i : Int) + (m : Int) := by omega
  have h07 : (i : Int) + 1 + (m : Int) ≤ (c : Int) := by omega
  have h08 : ¬ c = i + m := by omega
  have HC1 := Lib.hid hct1
  have HCT := Lib.hid hct
  have HH := Lib.hid hcur1
  have HS := Lib.hid hcs1
  clear hct1 hct hcur1 hcs1 hsome hcur
  have hclr : (Builtin.clear_ #[109] 0 #[.slice (some ⟨b, (i + m) * 3, none⟩) 1 (c - (i + m))]).run Tryd.prog W1 = .ok (.tuple #[]) (W1.setCells b ((i + m) * 3) [.int .i64 0, .slice none 0 0, .bool false]) := by
    have hst := run_storeCells_cells (P := Tryd.prog) b ((i + m) * 3) [.int .i64 0, .slice none 0 0, .bool false] 0 W1 (by
      intro j hj
      match j, hj with
      | 0, _ => simp [hu0]
      | 1, _ => simp [hu1]
      | 2, _ => simp [hu2]) (by
      intro j hj
      match j, hj with
      | 0, _ => simpa using hf0
      | 1, _ => simpa using hf1
      | 2, _ => simpa using hf2) (by
      intro v hv
      simp at hv
      rcases hv with rfl | rfl | rfl <;> rfl)
    simp only [Nat.add_zero] at hst
    have hzv : (zeroValue 116).run Tryd.prog W1 = .ok (.agg #[.int .i64 0, .slice none 0 0, .bool false]) W1 := by kernel_rfl
    have hzc : (Builtin.zeroCells (Value.agg #[.int .i64 0, .slice none 0 0, .bool false]).cells 1).toList = [.int .i64 0, .slice none 0 0, .bool false] := by kernel_rfl
    simp [Builtin.clear_, run_underlying Tryd.underlying109, hzv, hzc, hst]
  go_wp2_with fail
  go_ret
  obtain ⟨cur2, h2a, h2b, h2c⟩ := setCells_heap b 116 [.int .i64 0, .slice none 0 0, .bool false] ((i + m) * 3) W1 cur1 HH.out (by rw [HS.out, hcs]; simp; omega)
  have hg2 := setCells_grown b [.int .i64 0, .slice none 0 0, .bool false] ((i + m) * 3) W1
  have e0 : i + 1 + m - 1 = i + m := by omega
  rw [e0]
  refine ⟨rfl, grown_trans ⟨hg1.os, hg1.tape, hg1.output, hg1.size, hg1.block⟩ hg2, ?_, .inr ⟨b, c, cur2, rfl, hbb, h2a, by omega, hcn.2, by rw [h2b, HS.out, hcs], ?_⟩⟩
  · rw [flat_length, List.length_eraseIdx, if_pos (by omega), hn]
    omega
  · apply List.ext_getElem?
    intro t
    rw [flat_erase]
    by_cases ht : t < (i + m) * 3
    · rw [List.getElem?_take, if_pos ht, Array.getElem?_toList, h2c t, if_neg (by omega), HC1.out t]
      have hl1 : ((flat q).take (i * 3)).length = i * 3 := by rw [List.length_take, flat_length, hn]; omega
      by_cases hlow : t < i * 3
      · rw [if_neg (by omega), List.getElem?_append_left (by omega), List.getElem?_take, if_pos hlow, ← HCT.out, List.getElem?_take, if_pos (by omega), Array.getElem?_toList]
      · rw [if_pos (by rw [HNL.out]; omega), List.getElem?_append_right (by omega), hl1, HN.out]
    · rw [List.getElem?_eq_none (by simp; omega), List.getElem?_eq_none]
      rw [List.length_append, List.length_take, List.length_drop, flat_length, hn]
      omega
end Go.Proofs.YtaaeobdihfbjfaaDoor
