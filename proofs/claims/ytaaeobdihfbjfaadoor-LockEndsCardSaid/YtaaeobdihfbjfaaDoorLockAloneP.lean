/-
  What LockAlone's script comes to, in plain Lean.
-/
import Derived.Test.YtaaeobdihfbjfaaDoorLockSame
import Derived.Test.YtaaeobdihfbjfaaDoorMaps
set_option linter.unusedVariables false
set_option linter.unusedSimpArgs false
namespace Go.Proofs.YtaaeobdihfbjfaaDoor
open Go.RowKit
theorem ins_mem {s : ByteArray} {xs : List ByteArray} {x : ByteArray} : x ∈ ins s xs ↔ x = s ∨ x ∈ xs := by
  unfold ins
  rw [List.mem_append, List.mem_cons]
  constructor
  · rintro (h | h | h)
    · exact .inr (List.mem_of_mem_take h)
    · exact .inl h
    · exact .inr (List.mem_of_mem_drop h)
  · rintro (h | h)
    · exact .inr (.inl h)
    · rw [← List.take_append_drop (pos s xs) xs, List.mem_append] at h
      rcases h with h | h
      · exact .inl h
      · exact .inr (.inr h)
theorem setGo_mem : ∀ (l : List ByteArray) (i : Nat) (out xs : List ByteArray), setGo i out l = .ok xs → ∀ x, x ∈ xs ↔ x ∈ out ∨ x ∈ l
  | [], i, out, xs, h, x => by
    rw [setGo] at h
    injection h with h
    subst h
    simp
  | s :: r, i, out, xs, h, x => by
    rw [setGo] at h
    cases hc : checkB s with
    | some _ => rw [hc] at h; cases h
    | none =>
      rw [hc] at h
      cases hs : scan s out with
      | some _ => rw [hs] at h; cases h
      | none =>
        rw [hs] at h
        rw [setGo_mem r (i + 1) (ins s out) xs h x, ins_mem, List.mem_cons]
        constructor
        · rintro ((h | h) | h)
          · exact .inr (.inl h)
          · exact .inl h
          · exact .inr (.inr h)
        · rintro (h | h | h)
          · exact .inl (.inr h)
          · exact .inl (.inl h)
          · exact .inr h
theorem setGo_mem0 {l xs : List ByteArray} (h : setGo 0 [] l = .ok xs) (x : ByteArray) : x ∈ l ↔ x ∈ xs := by
  rw [setGo_mem l 0 [] xs h x]
  simp
theorem hitB_comm (p q : ByteArray) : hitB p q = hitB q p := by
  unfold hitB clashB
  rw [Bool.or_comm (hasP p (slash q))]
  congr 1
  rw [Bool.eq_iff_iff]
  simp only [beq_iff_eq]
  exact eq_comm
theorem meetB_iff {xs ys : List ByteArray} : meetB xs ys = true ↔ ∃ p ∈ xs, ∃ q ∈ ys, hitB p q = true := by
  simp [meetB, List.any_eq_true]
theorem meetB_congr {xs ys xs' ys' : List ByteArray} (hx : ∀ x, x ∈ xs ↔ x ∈ xs') (hy : ∀ y, y ∈ ys ↔ y ∈ ys') : meetB xs ys = meetB xs' ys' := by
  rw [Bool.eq_iff_iff, meetB_iff, meetB_iff]
  constructor
  · rintro ⟨p, hp, q, hq, h⟩
    exact ⟨p, (hx p).1 hp, q, (hy q).1 hq, h⟩
  · rintro ⟨p, hp, q, hq, h⟩
    exact ⟨p, (hx p).2 hp, q, (hy q).2 hq, h⟩
theorem meetB_comm (xs ys : List ByteArray) : meetB xs ys = meetB ys xs := by
  rw [Bool.eq_iff_iff, meetB_iff, meetB_iff]
  constructor
  · rintro ⟨p, hp, q, hq, h⟩
    exact ⟨q, hq, p, hp, by rw [hitB_comm]; exact h⟩
  · rintro ⟨p, hp, q, hq, h⟩
    exact ⟨q, hq, p, hp, by rw [hitB_comm]; exact h⟩
/-- What is asked for, as it was handed in: a slice that reads as ps. -/
def RawAt (w : World) (v : Value) (ps : List ByteArray) : Prop := ∃ A c, v = .slice A ps.length c ∧ TextRow w A ps ∧ (∀ s ∈ ps, s.size ≤ 100) ∧ ps.length ≤ 20
/-- Of everybody who asked the map bears what they asked for. -/
structure Alone (w0 : World) (q : List LRow) (m : Lit → Option Value) : Prop where
  sound : Sound q
  once : Once q
  small : q.length ≤ 64
  raw : ∀ i (h : i < q.length), ∃ v ps, m (.int .i64 q[i].who) = some v ∧ RawAt w0 v ps ∧ ∀ x, x ∈ ps ↔ x ∈ q[i].paths
theorem alone_start (w0 : World) : Alone w0 [] (fun _ => none) := ⟨fun i hi => by simp at hi, by simp [Once], by simp, fun i hi => by simp at hi⟩
theorem ask_len {q : List LRow} {who : Int} {ps : List ByteArray} (he : (askErr q who ps).num = 0) : findQ q who < 0 ∧ q.length ≠ 64 ∧ ∃ xs, setGo 0 [] ps = .ok xs := by
  unfold askErr at he
  split at he
  · cases he
  · split at he
    · cases he
    · split at he
      · cases he
      · refine ⟨by omega, by assumption, ?_⟩
        cases hs : setGo 0 [] ps with
        | ok xs => exact ⟨xs, rfl⟩
        | none_ i => rw [hs] at he; cases he
        | bad i c =>
          rw [hs] at he
          rcases setGo_two ps 0 [] hs with h2 | h2 <;> subst h2 <;> cases he
theorem ask_once {q : List LRow} (h : Once q) {who : Int} {ps : List ByteArray} (v : Value) : Once (askNext q who ps v) := by
  unfold askNext
  split
  · rename_i he
    unfold Once
    rw [List.map_append, List.map_singleton, List.nodup_append]
    refine ⟨h, by simp, fun a ha b hb e => ?_⟩
    rw [List.mem_singleton.1 hb] at e
    exact find_none_who (ask_len he).1 ((show a = who from e) ▸ ha)
  · exact h
theorem who_map2 {q : List LRow} : q.map LRow.who = (sig q).map (·.1) := by simp [sig, LRow.sig, Function.comp]
theorem rel_cases {q : List LRow} (ho : Once q) (who : Int) : relQ q who = (q, [], 4) ∨ ∃ k, ∃ hk : k < q.length, findQ q who = k ∧ q[k].who = who ∧ sig (relQ q who).1 = (sig q).eraseIdx k ∧ (relQ q who).2.2 = 0 ∧ Once (relQ q who).1 ∧ (relQ q who).1.length = q.length - 1 := by
  rcases findQ_cases q who with hm | ⟨k, hk, hm⟩
  · left
    rw [relQ, if_neg (by omega)]
  · right
    have hs := sig_rel hm
    refine ⟨k, hk, hm, ?_, hs.1, hs.2, ?_, ?_⟩
    · have hin : who ∈ q.map LRow.who := by
        by_cases h : who ∈ q.map LRow.who
        · exact h
        · have := (has_absent h).1
          omega
      obtain ⟨j, hj, hf, hw⟩ := findQ_present hin
      have : j = k := by omega
      subst this
      exact hw
    · unfold Once
      rw [who_map2, hs.1]
      have : ((sig q).eraseIdx k).map (·.1) = (q.map LRow.who).eraseIdx k := by
        rw [who_map2, List.eraseIdx_eq_take_drop_succ, List.eraseIdx_eq_take_drop_succ, List.map_append, List.map_take, List.map_drop]
      rw [this]
      exact List.Pairwise.sublist (List.eraseIdx_sublist _ _) ho
    · rw [← sig_length, hs.1, List.length_eraseIdx, if_pos (by rw [sig_length]; exact hk), sig_length]
theorem row_of_sig2 {q : List LRow} {i : Nat} (hi : i < q.length) {x : Int × List ByteArray} (h : (sig q)[i]? = some x) : q[i].who = x.1 ∧ q[i].paths = x.2 := by
  rw [sig_get hi] at h
  injection h with h
  rw [← h]
  exact ⟨rfl, rfl⟩
theorem int_ne {a b : Int} (h : a ≠ b) : (Lit.int .i64 a) ≠ .int .i64 b := fun e => h (by injection e)
theorem Alone.ask {w0 : World} {q : List LRow} {m : Lit → Option Value} (h : Alone w0 q m) {who : Int} {ps : List ByteArray} (he : (askErr q who ps).num = 0) (u v : Value) (hr : RawAt w0 v ps) : Alone w0 (askNext q who ps u) (upd m (.int .i64 who) v) := by
  obtain ⟨h1, h2, xs, hx⟩ := ask_len he
  have hn : askNext q who ps u = q ++ [⟨who, u, xs, askHas q who ps⟩] := by rw [askNext, if_pos he, hx]; rfl
  have hsm := h.small
  refine ⟨sound_ask h.sound _ _ _, ask_once h.once _, by rw [hn]; simp; omega, fun i hi => ?_⟩
  by_cases hlt : i < q.length
  · obtain ⟨v', ps', a1, a2, a3⟩ := h.raw i hlt
    have e : (askNext q who ps u)[i] = q[i] := by simp [hn, hlt]
    have hne : q[i].who ≠ who := fun e => find_none_who h1 (List.mem_map.2 ⟨q[i], List.getElem_mem hlt, e⟩)
    refine ⟨v', ps', ?_, a2, ?_⟩
    · rw [e, upd_other (int_ne hne)]; exact a1
    · rw [e]; exact a3
  · have hi2 : i = q.length := by rw [hn] at hi; simp at hi; omega
    subst hi2
    have e : (askNext q who ps u)[q.length] = ⟨who, u, xs, askHas q who ps⟩ := by simp [hn]
    refine ⟨v, ps, ?_, hr, ?_⟩
    · rw [e]; exact upd_same (kl := .int .i64 who) trivial v
    · rw [e]; exact setGo_mem0 hx
theorem Alone.rel {w0 : World} {q : List LRow} {m : Lit → Option Value} (h : Alone w0 q m) {who : Int} {k : Nat} (hk : k < q.length) (hw : q[k].who = who) (hs : sig (relQ q who).1 = (sig q).eraseIdx k) (ho : Once (relQ q who).1) (hl : (relQ q who).1.length = q.length - 1) : Alone w0 (relQ q who).1 (del m (.int .i64 who)) := by
  have hsm := h.small
  refine ⟨sound_rel h.sound _, ho, by omega, fun i hi => ?_⟩
  have hse : (sig (relQ q who).1)[i]? = ((sig q).eraseIdx k)[i]? := by rw [hs]
  obtain ⟨j, hj, hjk, e⟩ : ∃ j, ∃ hj : j < q.length, j ≠ k ∧ ((sig q).eraseIdx k)[i]? = some (q[j].who, q[j].paths) := by
    by_cases hik : i < k
    · exact ⟨i, by omega, by omega, by rw [List.getElem?_eraseIdx_of_lt hik]; exact sig_get (by omega)⟩
    · exact ⟨i + 1, by omega, by omega, by rw [List.getElem?_eraseIdx_of_ge (by omega)]; exact sig_get (by omega)⟩
  obtain ⟨e1, e2⟩ := row_of_sig2 hi (hse.trans e)
  obtain ⟨v', ps', a1, a2, a3⟩ := h.raw j hj
  refine ⟨v', ps', ?_, a2, ?_⟩
  · have hne : q[j].who ≠ who := by
      rw [← hw]
      rcases Nat.lt_or_gt_of_ne hjk with hlt | hlt
      · exact once_ne h.once hk hlt
      · exact fun e => once_ne h.once hj hlt e.symm
    rw [e1, del_other (int_ne hne)]
    exact a1
  · rw [e2]; exact a3
/-- Who is struck from the order. -/
theorem filter_erase : ∀ {l : List Int} (hn : l.Nodup) {k : Nat} (hk : k < l.length), l.filter (fun x => !(x == l[k])) = l.eraseIdx k
  | a :: r, hn, 0, hk => by
    rw [List.nodup_cons] at hn
    rw [List.filter_cons]
    simp only [List.getElem_cons_zero, BEq.rfl, Bool.not_true, Bool.false_eq_true, if_false, List.eraseIdx_cons_zero]
    refine List.filter_eq_self.2 (fun x hx => ?_)
    have : x ≠ a := fun e => hn.1 (e ▸ hx)
    simp [this]
  | a :: r, hn, k + 1, hk => by
    rw [List.nodup_cons] at hn
    have hk' : k < r.length := by simpa using hk
    have hne : a ≠ r[k] := fun e => hn.1 (e ▸ List.getElem_mem hk')
    rw [List.filter_cons]
    simp only [List.getElem_cons_succ, List.eraseIdx_cons_succ]
    rw [if_pos (by simp [hne]), filter_erase hn.2 hk']
/-- Who has theirs meets nobody ahead who has theirs. -/
theorem Alone.apart {w0 : World} {q : List LRow} {m : Lit → Option Value} (h : Alone w0 q m) {i j : Nat} (hi : i < q.length) (hj : j < i) {ps ps' : List ByteArray} (hp : ∀ x, x ∈ ps ↔ x ∈ q[i].paths) (hp' : ∀ x, x ∈ ps' ↔ x ∈ (q[j]'(by omega)).paths) (h1 : hasQ q q[i].who = true) : meetB ps ps' = false := by
  have hjl : j < q.length := by omega
  rw [has_at h.sound hi rfl (fun t ht hti => once_ne h.once hi hti)] at h1
  rw [meetB_congr hp hp', meetB_comm]
  cases hm : meetB q[j].paths q[i].paths with
  | false => rfl
  | true =>
    exfalso
    have e : (sig q).getD i (0, []) = (q[i].who, q[i].paths) := by rw [List.getD_eq_getElem?_getD, sig_get hi]; rfl
    unfold canS at h1
    rw [e] at h1
    simp only [Bool.not_eq_true', List.any_eq_false] at h1
    have := h1 (q[j].who, q[j].paths) (List.mem_take_iff_getElem.2 ⟨j, by rw [sig_length]; omega, by
      have h2 := sig_get hjl
      exact (List.getElem?_eq_some_iff.1 h2).2⟩)
    exact this hm
theorem Alone.first {w0 : World} {q : List LRow} {m : Lit → Option Value} (h : Alone w0 q m) (hq : 0 < q.length) : hasQ q q[0].who = true := by
  rw [has_at h.sound hq rfl (fun t ht hti => by omega)]
  rfl
end Go.Proofs.YtaaeobdihfbjfaaDoor
