/-
  What locks keep, in plain Lean: whoever has theirs is just who can; nobody asked twice.
-/
import Derived.Test.YtaaeobdihfbjfaaDoorLockHold
set_option linter.unusedVariables false
set_option linter.unusedSimpArgs false
namespace Go.Proofs.YtaaeobdihfbjfaaDoor
/-- The paths alone tell who can. -/
theorem freeQ_congr {q q' : List LRow} (h : q.map LRow.paths = q'.map LRow.paths) (i : Nat) : freeQ q i = freeQ q' i := by
  have hl : q.length = q'.length := by simpa using congrArg List.length h
  have hget : ∀ j, (q.getD j zRow).paths = (q'.getD j zRow).paths := by
    intro j
    by_cases hj : j < q.length
    · have hj' : j < q'.length := by omega
      have := congrArg (fun l => l[j]?) h
      simp only [List.getElem?_map, List.getElem?_eq_getElem hj, List.getElem?_eq_getElem hj', Option.map_some, Option.some.injEq] at this
      simp [List.getD, hj, hj', this]
    · have hj' : ¬ j < q'.length := by omega
      simp [List.getD, hj, hj']
  unfold freeQ
  rw [hget i]
  have e : ∀ (l l' : List LRow), l.map LRow.paths = l'.map LRow.paths → (l.any fun a => meetB a.paths (q'.getD i zRow).paths) = (l'.any fun a => meetB a.paths (q'.getD i zRow).paths) := by
    intro l l' hm
    have h1 : (l.any fun a => meetB a.paths (q'.getD i zRow).paths) = (l.map LRow.paths).any fun x => meetB x (q'.getD i zRow).paths := by rw [List.any_map]; rfl
    have h2 : (l'.any fun a => meetB a.paths (q'.getD i zRow).paths) = (l'.map LRow.paths).any fun x => meetB x (q'.getD i zRow).paths := by rw [List.any_map]; rfl
    rw [h1, h2, hm]
  rw [e (q.take i) (q'.take i) (by rw [List.map_take, List.map_take, h])]
/-- Whoever has theirs is just who can. -/
def Sound (q : List LRow) : Prop := ∀ i (h : i < q.length), q[i].has = freeQ q i
/-- Nobody twice. -/
def Once (q : List LRow) : Prop := (q.map LRow.who).Nodup
theorem freeQ_append (q r : List LRow) {i : Nat} (hi : i < q.length) : freeQ (q ++ r) i = freeQ q i := by
  unfold freeQ
  rw [List.take_append_of_le_length (by omega)]
  have : (q ++ r).getD i zRow = q.getD i zRow := by simp [List.getD, List.getElem?_append_left hi]
  rw [this]
theorem sound_ask {q : List LRow} (h : Sound q) (who : Int) (ps : List ByteArray) (v : Value) : Sound (askNext q who ps v) := by
  unfold askNext
  split
  · rename_i hn
    intro i hi
    by_cases hlt : i < q.length
    · rw [List.getElem_append_left hlt, freeQ_append q _ hlt]
      exact h i hlt
    · have : i = q.length := by simp at hi; omega
      subst this
      rw [freeQ_last, List.getElem_append_right (Nat.le_refl _)]
      simp only [Nat.sub_self, List.getElem_cons_zero]
      rw [askHas, decide_eq_true hn]
      rfl
  · exact h
theorem wake_who (q : List LRow) : ∀ k, (wake q k).1.map LRow.who = q.map LRow.who ∧ (wake q k).1.map LRow.paths = q.map LRow.paths
  | 0 => ⟨rfl, rfl⟩
  | k + 1 => by
    have ih := wake_who q k
    rw [wake]
    split
    · by_cases hk : k < (wake q k).1.length
      · have e : (wake q k).1.getD k zRow = (wake q k).1[k] := by simp [List.getD, hk]
        rw [e]
        constructor
        · rw [← ih.1, List.map_set]
          apply List.ext_getElem?
          intro j
          rw [List.getElem?_set]
          split
          · rename_i hj; subst hj
            simp [hk, LRow.give]
          · rfl
        · rw [← ih.2, List.map_set]
          apply List.ext_getElem?
          intro j
          rw [List.getElem?_set]
          split
          · rename_i hj; subst hj
            simp [hk, LRow.give]
          · rfl
      · rw [List.set_eq_of_length_le (by omega)]
        exact ih
    · exact ih
theorem wake_free (q : List LRow) (k i : Nat) : freeQ (wake q k).1 i = freeQ q i := freeQ_congr (wake_who q k).2 i
/-- Behind k rounds: the first k have theirs if they can. -/
theorem wake_has {q : List LRow} : ∀ k, k ≤ q.length → ∀ i (hi : i < (wake q k).1.length) (hi' : i < q.length), (wake q k).1[i].has = if i < k then (q[i].has || freeQ q i) else q[i].has
  | 0, _, i, hi, hi' => by simp [wake]
  | k + 1, hk, i, hi, hi' => by
    have hwl := wake_length q k
    have ih := wake_has (q := q) k (by omega)
    have hkw : k < (wake q k).1.length := by omega
    have e : (wake q k).1.getD k zRow = (wake q k).1[k] := by simp [List.getD, hkw]
    have hkk := ih k hkw (by omega)
    rw [if_neg (by omega)] at hkk
    have hiw : i < (wake q k).1.length := by omega
    have ihi := ih i hiw hi'
    have key : (wake q (k + 1)).1 = if !(q[k]'(by omega)).has && freeQ q k then (wake q k).1.set k ((wake q k).1[k].give true) else (wake q k).1 := by
      rw [wake, e, wake_free, hkk]
      split <;> rfl
    have key2 : (wake q (k + 1)).1[i]? = some ((wake q (k + 1)).1[i]) := List.getElem?_eq_getElem hi
    have goal : ∀ r, (wake q (k + 1)).1[i]? = some r → r.has = if i < k + 1 then (q[i].has || freeQ q i) else q[i].has := by
      intro r hr
      rw [key] at hr
      by_cases hc : (!(q[k]'(by omega)).has && freeQ q k) = true
      · rw [if_pos hc] at hr
        by_cases hik : k = i
        · subst hik
          rw [List.getElem?_set_self hkw] at hr
          injection hr with hr
          subst hr
          rw [if_pos (by omega)]
          simp at hc
          simp [LRow.give, hc.2]
        · rw [List.getElem?_set_ne hik, List.getElem?_eq_getElem hiw] at hr
          injection hr with hr
          subst hr
          rw [ihi]
          by_cases hik2 : i < k
          · rw [if_pos hik2, if_pos (by omega)]
          · rw [if_neg hik2, if_neg (by omega)]
      · rw [if_neg hc, List.getElem?_eq_getElem hiw] at hr
        injection hr with hr
        subst hr
        rw [ihi]
        by_cases hik : i = k
        · subst hik
          rw [if_neg (by omega), if_pos (by omega)]
          cases h1 : q[i].has <;> cases h2 : freeQ q i <;> simp_all
        · by_cases hik2 : i < k
          · rw [if_pos hik2, if_pos (by omega)]
          · rw [if_neg hik2, if_neg (by omega)]
    exact goal _ key2
/-- Who is out of the way leaves more room. -/
theorem free_erase {q : List LRow} {k i : Nat} (hi : i < (q.eraseIdx k).length) (h : ∀ j (hj : j < q.length), q[j].has = freeQ q j) (hh : (q.eraseIdx k)[i].has = true) : freeQ (q.eraseIdx k) i = true := by
  by_cases hk : k < q.length
  · have hl : (q.eraseIdx k).length = q.length - 1 := by rw [List.length_eraseIdx, if_pos hk]
    obtain ⟨j, hj, hji, hsub⟩ : ∃ j, ∃ hj : j < q.length, q[j] = (q.eraseIdx k)[i] ∧ ∀ a ∈ (q.eraseIdx k).take i, a ∈ q.take j := by
      by_cases hik : i < k
      · refine ⟨i, by omega, (List.getElem_eraseIdx_of_lt hi hik).symm, fun a ha => ?_⟩
        rw [List.eraseIdx_eq_take_drop_succ, List.take_append_of_le_length (by simp; omega), List.take_take, Nat.min_eq_left (by omega)] at ha
        exact ha
      · refine ⟨i + 1, by omega, (List.getElem_eraseIdx_of_ge hi (by omega)).symm, fun a ha => ?_⟩
        obtain ⟨t, ht, rfl⟩ := List.getElem_of_mem ha
        have ht2 : t < i := by simp at ht; omega
        rw [List.getElem_take]
        by_cases htk : t < k
        · rw [List.getElem_eraseIdx_of_lt _ htk]
          exact List.mem_take_iff_getElem.2 ⟨t, by omega, rfl⟩
        · rw [List.getElem_eraseIdx_of_ge _ (by omega)]
          exact List.mem_take_iff_getElem.2 ⟨t + 1, by omega, rfl⟩
    have h1 := h j hj
    rw [hji, hh] at h1
    have e1 : (q.eraseIdx k).getD i zRow = (q.eraseIdx k)[i] := by simp [List.getD, hi]
    have e2 : q.getD j zRow = (q.eraseIdx k)[i] := by rw [← hji]; simp [List.getD, hj]
    unfold freeQ at h1 ⊢
    rw [e2] at h1
    rw [e1]
    have h2 := h1.symm
    simp only [Bool.not_eq_true', List.any_eq_false] at h2 ⊢
    exact fun a ha => h2 a (hsub a ha)
  · have e : q.eraseIdx k = q := List.eraseIdx_of_length_le (by omega)
    simp only [e] at hi hh ⊢
    rw [← h i hi]; exact hh
theorem sound_rel {q : List LRow} (h : Sound q) (who : Int) : Sound (relQ q who).1 := by
  unfold relQ
  split
  · rename_i hf
    rcases findQ_cases q who with hm | ⟨k, hk, hm⟩
    · omega
    · rw [hm]
      show Sound (wake (q.eraseIdx k) (q.length - 1)).1
      have hl : (q.eraseIdx k).length = q.length - 1 := by rw [List.length_eraseIdx, if_pos hk]
      intro i hi
      have hi' : i < (q.eraseIdx k).length := by rw [wake_length] at hi; exact hi
      rw [wake_has (q.length - 1) (by omega) i hi hi', if_pos (by omega), wake_free]
      cases hh : (q.eraseIdx k)[i].has with
      | true => rw [free_erase hi' h hh]; rfl
      | false => rfl
  · exact h
end Go.Proofs.YtaaeobdihfbjfaaDoor
