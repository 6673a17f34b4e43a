/-
  What LockEnds's script comes to, in plain Lean.
-/
import Derived.Test.YtaaeobdihfbjfaaDoorLockAloneP
set_option linter.unusedVariables false
set_option linter.unusedSimpArgs false
namespace Go.Proofs.YtaaeobdihfbjfaaDoor
theorem hasQ_iff {q : List LRow} (ho : Once q) {w : Int} : hasQ q w = true ↔ ∃ a ∈ q, a.who = w ∧ a.has = true := by
  constructor
  · intro h
    rcases findQ_cases q w with hm | ⟨k, hk, hm⟩
    · rw [hasQ, hm] at h; simp at h
    · have hin : w ∈ q.map LRow.who := by
        by_cases h2 : w ∈ q.map LRow.who
        · exact h2
        · have := (has_absent h2).1
          omega
      obtain ⟨j, hj, hf, hw⟩ := findQ_present hin
      have : j = k := by omega
      subst this
      refine ⟨q[j], List.getElem_mem hj, hw, ?_⟩
      rw [hasQ, hf] at h
      simpa [List.getD, hj] using h
  · rintro ⟨a, ha, hw, hh⟩
    obtain ⟨i, hi, rfl⟩ := List.getElem_of_mem ha
    have hf : findQ q w = i := findQ_at hi hw (fun j hj hji => by rw [← hw]; exact once_ne ho hi hji)
    rw [hasQ, hf]
    simp [List.getD, hi, hh]
theorem waitsQ_iff {q : List LRow} (ho : Once q) {w : Int} : waitsQ q w = true ↔ ∃ a ∈ q, a.who = w ∧ a.has = false := by
  constructor
  · intro h
    by_cases hin : w ∈ q.map LRow.who
    · obtain ⟨j, hj, hf, hw⟩ := findQ_present hin
      refine ⟨q[j], List.getElem_mem hj, hw, ?_⟩
      rw [waitsQ, hf] at h
      simpa [List.getD, hj] using h
    · have := (has_absent hin).2.2
      rw [this] at h
      cases h
  · rintro ⟨a, ha, hw, hh⟩
    obtain ⟨i, hi, rfl⟩ := List.getElem_of_mem ha
    have hf : findQ q w = i := findQ_at hi hw (fun j hj hji => by rw [← hw]; exact once_ne ho hi hji)
    rw [waitsQ, hf]
    simp [List.getD, hi, hh]
theorem row_one {q : List LRow} (ho : Once q) {a b : LRow} (ha : a ∈ q) (hb : b ∈ q) (h : a.who = b.who) : a = b := by
  obtain ⟨i, hi, rfl⟩ := List.getElem_of_mem ha
  obtain ⟨j, hj, rfl⟩ := List.getElem_of_mem hb
  rcases Nat.lt_trichotomy i j with hlt | rfl | hlt
  · exact (once_ne ho hj hlt h).elim
  · rfl
  · exact (once_ne ho hi hlt h.symm).elim
theorem mem_erase {q : List LRow} (ho : Once q) {k : Nat} (hk : k < q.length) {a : LRow} : a ∈ q.eraseIdx k ↔ a ∈ q ∧ a.who ≠ q[k].who := by
  constructor
  · intro h
    refine ⟨List.mem_of_mem_eraseIdx h, fun e => ?_⟩
    obtain ⟨i, hi, rfl⟩ := List.getElem_of_mem h
    have hl : (q.eraseIdx k).length = q.length - 1 := by rw [List.length_eraseIdx, if_pos hk]
    by_cases hik : i < k
    · rw [List.getElem_eraseIdx_of_lt hi hik] at e
      exact once_ne ho hk hik e
    · rw [List.getElem_eraseIdx_of_ge hi (by omega)] at e
      exact once_ne ho (show i + 1 < q.length by omega) (show k < i + 1 by omega) e.symm
  · rintro ⟨h, hne⟩
    obtain ⟨i, hi, rfl⟩ := List.getElem_of_mem h
    have hik : i ≠ k := fun e => hne (by subst e; rfl)
    rw [List.mem_eraseIdx_iff_getElem]
    exact ⟨i, hi, hik, rfl⟩
/-- Had, behind t of a list. -/
def hdT (hd : Int → Int) (n : Int) (l : List Int) : Nat → Int → Int
  | 0, w => hd w
  | t + 1, w => if w = l.getD t 0 then n + t + 1 else hdT hd n l t w
theorem hdT_not {hd : Int → Int} {n : Int} {l : List Int} {w : Int} : ∀ t, t ≤ l.length → w ∉ l.take t → hdT hd n l t w = hd w
  | 0, _, _ => rfl
  | t + 1, ht, hn => by
    rw [List.take_succ_eq_append_getElem (by omega), List.mem_append, List.mem_singleton] at hn
    have e : l.getD t 0 = l[t] := by rw [List.getD_eq_getElem?_getD, List.getElem?_eq_getElem (by omega)]; rfl
    rw [hdT, if_neg (by rw [e]; exact fun h => hn (.inr h))]
    exact hdT_not t (by omega) (fun h => hn (.inl h))
theorem hdT_in {hd : Int → Int} {n : Int} {l : List Int} {w : Int} : ∀ t, t ≤ l.length → w ∈ l.take t → n + 1 ≤ hdT hd n l t w ∧ hdT hd n l t w ≤ n + t
  | 0, _, h => by simp at h
  | t + 1, ht, h => by
    rw [List.take_succ_eq_append_getElem (by omega), List.mem_append, List.mem_singleton] at h
    have e : l.getD t 0 = l[t] := by rw [List.getD_eq_getElem?_getD, List.getElem?_eq_getElem (by omega)]; rfl
    by_cases hw : w = l.getD t 0
    · rw [hdT, if_pos hw]
      omega
    · rw [hdT, if_neg hw]
      have h2 := hdT_in (hd := hd) (n := n) t (by omega) (h.resolve_right (fun h => hw (by rw [e]; exact h)))
      omega
/-- Who stays, what they had, and in which order. -/
structure Ends (q0 q : List LRow) (hs : List Int) (hd : Int → Int) (n : Nat) : Prop where
  sound : Sound q
  once : Once q
  sub : (sig q).Sublist (sig q0)
  nd : hs.Nodup
  has : ∀ w, w ∈ hs ↔ hasQ q w = true
  cnt : n + (q.filter (fun a => !a.has)).length = q0.length
  rng : ∀ i (h : i < q0.length), waitsQ q q0[i].who = false → 1 ≤ hd q0[i].who ∧ hd q0[i].who ≤ n
  ord : ∀ i j (hij : i < j) (hj : j < q0.length), meetB (q0[i]'(by omega)).paths q0[j].paths = true → waitsQ q q0[j].who = false → waitsQ q (q0[i]'(by omega)).who = false ∧ hd (q0[i]'(by omega)).who < hd q0[j].who
theorem filter_split {α : Type} (l : List α) (p f g : α → Bool) (h : ∀ a ∈ l, p a = (f a || g a)) (hd : ∀ a ∈ l, ¬ (f a = true ∧ g a = true)) : (l.filter p).length = (l.filter f).length + (l.filter g).length := by
  induction l with
  | nil => rfl
  | cons a r ih =>
    have ih := ih (fun b hb => h b (List.mem_cons_of_mem _ hb)) (fun b hb => hd b (List.mem_cons_of_mem _ hb))
    have ha := h a (by simp)
    have hda := hd a (by simp)
    simp only [List.filter_cons]
    cases hf : f a <;> cases hg : g a
    · rw [ha, hf, hg]; simpa using ih
    · rw [ha, hf, hg]; simp; omega
    · rw [ha, hf, hg]; simp; omega
    · exact (hda ⟨hf, hg⟩).elim
def hs0 (q : List LRow) : List Int := (q.map LRow.who).filter (hasQ q)
theorem hs0_has {q : List LRow} (ho : Once q) {w : Int} : w ∈ hs0 q ↔ hasQ q w = true := by
  unfold hs0
  rw [List.mem_filter]
  constructor
  · exact fun h => h.2
  · intro h
    obtain ⟨a, ha, hw, _⟩ := (hasQ_iff ho).1 h
    exact ⟨List.mem_map.2 ⟨a, ha, hw⟩, h⟩
theorem hs0_len {q : List LRow} (ho : Once q) : (hs0 q).length + (q.filter (fun a => !a.has)).length = q.length := by
  have e : hs0 q = (q.filter (fun a => a.has)).map LRow.who := by
    unfold hs0
    rw [List.filter_map]
    congr 1
    refine List.filter_congr (fun a ha => ?_)
    show hasQ q a.who = a.has
    cases hh : a.has with
    | true => exact (hasQ_iff ho).2 ⟨a, ha, rfl, hh⟩
    | false =>
      cases hc : hasQ q a.who with
      | false => rfl
      | true =>
        obtain ⟨b, hb, hw, h2⟩ := (hasQ_iff ho).1 hc
        have := row_one ho hb ha hw
        subst this
        rw [hh] at h2
        cases h2
  rw [e, List.length_map]
  have := filter_split q (fun _ => true) (fun a => a.has) (fun a => !a.has) (fun a _ => by cases a.has <;> rfl) (fun a _ hb => by
    obtain ⟨h1, h2⟩ := hb
    rw [h1] at h2
    cases h2)
  rw [List.filter_eq_self.2 (fun _ _ => rfl)] at this
  omega
theorem waits_has {q : List LRow} (ho : Once q) {w : Int} (h : hasQ q w = true) : waitsQ q w = false := by
  obtain ⟨a, ha, hw, _⟩ := (hasQ_iff ho).1 h
  have := has_present (List.mem_map.2 ⟨a, ha, hw⟩)
  rw [this, h]
  rfl
theorem ends_start {q : List LRow} (hs : Sound q) (ho : Once q) : Ends q q (hs0 q) (hdT (fun _ => 0) 0 (hs0 q) (hs0 q).length) (hs0 q).length := by
  have had : ∀ i (h : i < q.length), waitsQ q q[i].who = false → q[i].who ∈ hs0 q := fun i h hw => by
    rw [hs0_has ho]
    have := has_present (List.mem_map.2 ⟨q[i], List.getElem_mem h, rfl⟩)
    rw [this] at hw
    simpa using hw
  refine ⟨hs, ho, List.Sublist.refl _, List.Pairwise.filter _ ho, fun w => hs0_has ho, hs0_len ho, fun i h hw => ?_, fun i j hij hj hm hw => ?_⟩
  · have := hdT_in (hd := fun _ => 0) (n := 0) (l := hs0 q) (hs0 q).length (Nat.le_refl _) (by rw [List.take_length]; exact had i h hw)
    omega
  · exfalso
    have h1 := (hs0_has ho).1 (had j hj hw)
    rw [has_at hs hj rfl (fun t ht htj => once_ne ho hj htj)] at h1
    have e : (sig q).getD j (0, []) = (q[j].who, q[j].paths) := by rw [List.getD_eq_getElem?_getD, sig_get hj]; rfl
    unfold canS at h1
    rw [e] at h1
    simp only [Bool.not_eq_true', List.any_eq_false] at h1
    have hi : i < q.length := by omega
    have := h1 (q[i].who, q[i].paths) (List.mem_take_iff_getElem.2 ⟨i, by rw [sig_length]; omega, by
      have h2 := sig_get hi
      exact (List.getElem?_eq_some_iff.1 h2).2⟩)
    exact this hm
theorem countP_range {α : Type} (z : α) (p : α → Bool) (q : List α) : (q.filter p).length = ((List.range q.length).filter fun i => p (q.getD i z)).length := by
  have e : q = (List.range q.length).map fun i => q.getD i z := by
    apply List.ext_getElem (by simp)
    intro i h1 h2
    simp [List.getD, h1]
  conv => lhs; rw [e]
  rw [List.filter_map, List.length_map]
  rfl
/-- What a release comes to, row by row. -/
theorem rel_rows {q : List LRow} {x : Int} {k : Nat} (hk : k < q.length) (hf : findQ q x = k) :
    (relQ q x).1.length = (q.eraseIdx k).length ∧ (relQ q x).2.2 = 0 ∧ (∀ i (h : i < (relQ q x).1.length) (h' : i < (q.eraseIdx k).length), (relQ q x).1[i].who = (q.eraseIdx k)[i].who ∧ (relQ q x).1[i].has = ((q.eraseIdx k)[i].has || freeQ (q.eraseIdx k) i)) ∧
      (relQ q x).2.1 = ((List.range (q.eraseIdx k).length).filter fun i => !((q.eraseIdx k).getD i zRow).has && freeQ (q.eraseIdx k) i).map fun i => ((q.eraseIdx k).getD i zRow).who := by
  have hl : (q.eraseIdx k).length = q.length - 1 := by rw [List.length_eraseIdx, if_pos hk]
  have ht := rel_told hf hk
  rw [relQ, hf, if_pos (by omega)] at ht ⊢
  refine ⟨?_, rfl, fun i h h' => ?_, by rw [hl]; exact ht⟩
  · exact wake_length _ _
  · have hh := wake_has (q := q.eraseIdx k) (q.length - 1) (by omega) i h h'
    rw [if_pos (by omega)] at hh
    refine ⟨?_, hh⟩
    have e1 := congrArg (fun l => l[i]?) (wake_who (q.eraseIdx k) (q.length - 1)).1
    have hw' : i < (wake (q.eraseIdx k) (q.length - 1)).1.length := h
    simp only [List.getElem?_map] at e1
    rw [List.getElem?_eq_getElem hw', List.getElem?_eq_getElem h'] at e1
    simpa using e1
theorem Ends.rel {q0 q : List LRow} {hs : List Int} {hd : Int → Int} {n : Nat} (h0 : Once q0) (h : Ends q0 q hs hd n) {a : Nat} (ha : a < hs.length) :
    (relQ q hs[a]).2.2 = 0 ∧ (relQ q hs[a]).1.length + 1 = q.length ∧ (relQ q hs[a]).2.1.length ≤ q.length ∧ Ends q0 (relQ q hs[a]).1 (hs.eraseIdx a ++ (relQ q hs[a]).2.1) (hdT hd n (relQ q hs[a]).2.1 (relQ q hs[a]).2.1.length) (n + (relQ q hs[a]).2.1.length) := by
  obtain ⟨x, hx⟩ : ∃ x, x = hs[a] := ⟨_, rfl⟩
  have hxh : hasQ q x = true := (h.has x).1 (hx ▸ List.getElem_mem ha)
  rw [← hx]
  have hin : x ∈ q.map LRow.who := by
    obtain ⟨r, hr, hw, _⟩ := (hasQ_iff h.once).1 hxh
    exact List.mem_map.2 ⟨r, hr, hw⟩
  obtain ⟨k, hk, hf, hkw⟩ := findQ_present hin
  obtain ⟨q1, hq1⟩ : ∃ q1, q1 = q.eraseIdx k := ⟨_, rfl⟩
  obtain ⟨hlen, he, hrow, htold⟩ := rel_rows hk hf
  have hsig := (sig_rel hf).1
  have hcs := rel_cases h.once x
  have ho' : Once (relQ q x).1 := by
    rcases hcs with hcs | ⟨_, _, _, _, _, _, ho, _⟩
    · rw [hcs]; exact h.once
    · exact ho
  rw [← hq1] at hlen hrow htold
  have hl1 : q1.length = q.length - 1 := by rw [hq1, List.length_eraseIdx, if_pos hk]
  have hmem : ∀ b, b ∈ q1 ↔ b ∈ q ∧ b.who ≠ x := fun b => by rw [hq1, mem_erase h.once hk, hkw]
  obtain ⟨told, htd⟩ : ∃ told, told = (relQ q x).2.1 := ⟨_, rfl⟩
  obtain ⟨q', hq'⟩ : ∃ q', q' = (relQ q x).1 := ⟨_, rfl⟩
  rw [← htd] at htold
  rw [← hq'] at hlen hrow hsig ho'
  rw [← hq', ← htd]
  have ho1 : Once q1 := by
    have : q1.map LRow.who = (q.map LRow.who).eraseIdx k := by
      rw [hq1, List.eraseIdx_eq_take_drop_succ, List.eraseIdx_eq_take_drop_succ, List.map_append, List.map_take, List.map_drop]
    unfold Once
    rw [this]
    exact List.Pairwise.sublist (List.eraseIdx_sublist _ _) h.once
  have hgd : ∀ i (hi : i < q1.length), q1.getD i zRow = q1[i] := fun i hi => by simp [List.getD, hi]
  have htm : ∀ w, w ∈ told ↔ ∃ i, ∃ hi : i < q1.length, q1[i].who = w ∧ q1[i].has = false ∧ freeQ q1 i = true := fun w => by
    rw [htold, List.mem_map]
    constructor
    · rintro ⟨i, hi, e⟩
      rw [List.mem_filter, List.mem_range] at hi
      rw [hgd i hi.1] at e hi
      simp at hi
      exact ⟨i, hi.1, e, hi.2.1, hi.2.2⟩
    · rintro ⟨i, hi, e, h1, h2⟩
      refine ⟨i, ?_, by rw [hgd i hi]; exact e⟩
      rw [List.mem_filter, List.mem_range, hgd i hi, h1, h2]
      exact ⟨hi, rfl⟩
  have htw : ∀ w, w ∈ told → waitsQ q w = true := fun w hw => by
    obtain ⟨i, hi, e, h1, _⟩ := (htm w).1 hw
    have := (hmem q1[i]).1 (List.getElem_mem hi)
    exact (waitsQ_iff h.once).2 ⟨q1[i], this.1, e, h1⟩
  have hhas' : ∀ w, hasQ q' w = true ↔ (hasQ q w = true ∧ w ≠ x) ∨ w ∈ told := fun w => by
    rw [hasQ_iff ho', hasQ_iff h.once]
    constructor
    · rintro ⟨b, hb, e, hh⟩
      obtain ⟨i, hi, rfl⟩ := List.getElem_of_mem hb
      have hi1 : i < q1.length := by omega
      obtain ⟨r1, r2⟩ := hrow i hi hi1
      rw [r2] at hh
      rw [r1] at e
      cases h1 : q1[i].has with
      | true =>
        have := (hmem q1[i]).1 (List.getElem_mem hi1)
        exact .inl ⟨⟨q1[i], this.1, e, h1⟩, by rw [← e]; exact this.2⟩
      | false =>
        rw [h1] at hh
        exact .inr ((htm w).2 ⟨i, hi1, e, h1, by simpa using hh⟩)
    · rintro (⟨⟨b, hb, e, hh⟩, hne⟩ | hw)
      · have := (hmem b).2 ⟨hb, by rw [e]; exact hne⟩
        obtain ⟨i, hi, rfl⟩ := List.getElem_of_mem this
        have hi' : i < q'.length := by omega
        obtain ⟨r1, r2⟩ := hrow i hi' hi
        exact ⟨q'[i], List.getElem_mem hi', by rw [r1]; exact e, by rw [r2, hh]; rfl⟩
      · obtain ⟨i, hi, e, h1, h2⟩ := (htm w).1 hw
        have hi' : i < q'.length := by omega
        obtain ⟨r1, r2⟩ := hrow i hi' hi
        exact ⟨q'[i], List.getElem_mem hi', by rw [r1]; exact e, by rw [r2, h2]; simp⟩
  have hw' : ∀ w, waitsQ q' w = true → waitsQ q w = true := fun w hw => by
    obtain ⟨b, hb, e, hh⟩ := (waitsQ_iff ho').1 hw
    obtain ⟨i, hi, rfl⟩ := List.getElem_of_mem hb
    have hi1 : i < q1.length := by omega
    obtain ⟨r1, r2⟩ := hrow i hi hi1
    rw [r2] at hh
    have := (hmem q1[i]).1 (List.getElem_mem hi1)
    exact (waitsQ_iff h.once).2 ⟨q1[i], this.1, by rw [← r1]; exact e, by cases h1 : q1[i].has <;> simp_all⟩
  have hstay : ∀ w, waitsQ q w = false → waitsQ q' w = false := fun w hw => by
    cases hc : waitsQ q' w with
    | false => rfl
    | true => rw [hw' w hc] at hw; cases hw
  have hturn : ∀ w, waitsQ q w = true → waitsQ q' w = false → w ∈ told := fun w hw hn => by
    obtain ⟨b, hb, e, hh⟩ := (waitsQ_iff h.once).1 hw
    have hne : b.who ≠ x := fun e2 => by
      have := waits_has h.once hxh
      rw [← e2, e, hw] at this
      cases this
    obtain ⟨i, hi, rfl⟩ := List.getElem_of_mem ((hmem b).2 ⟨hb, hne⟩)
    have hi' : i < q'.length := by omega
    obtain ⟨r1, r2⟩ := hrow i hi' hi
    cases hfr : freeQ q1 i with
    | true => exact (htm w).2 ⟨i, hi, e, hh, hfr⟩
    | false =>
      have : waitsQ q' w = true := (waitsQ_iff ho').2 ⟨q'[i], List.getElem_mem hi', by rw [r1]; exact e, by rw [r2, hh, hfr]; rfl⟩
      rw [this] at hn
      cases hn
  have hnt : ∀ w, waitsQ q w = false → w ∉ told := fun w hw hm => by rw [htw w hm] at hw; cases hw
  have htl : told.length ≤ q1.length := by
    rw [htold, List.length_map]
    exact Nat.le_trans (List.length_filter_le _ _) (by simp)
  have hsub1 : (sig q1).Sublist (sig q0) := by
    rw [hq1, sig_erase]
    exact (List.eraseIdx_sublist _ _).trans h.sub
  refine ⟨he, by omega, by omega, ⟨?_, ho', ?_, ?_, fun w => ?_, ?_, fun i hi hw => ?_, fun i j hij hj hm hw => ?_⟩⟩
  · rw [hq']; exact sound_rel h.sound x
  · rw [hsig]
    exact (List.eraseIdx_sublist _ _).trans h.sub
  · rw [List.nodup_append]
    refine ⟨List.Pairwise.sublist (List.eraseIdx_sublist _ _) h.nd, ?_, fun u hu v hv e => ?_⟩
    · rw [htold]
      unfold List.Nodup
      rw [List.pairwise_map]
      have hp : ((List.range q1.length).filter fun i => !(q1.getD i zRow).has && freeQ q1 i).Pairwise (fun a b => a < b) := List.Pairwise.filter _ List.pairwise_lt_range
      refine List.Pairwise.imp_of_mem (fun {i j} hi hj hij => ?_) hp
      have hi1 := List.mem_range.1 (List.mem_filter.1 hi).1
      have hj1 := List.mem_range.1 (List.mem_filter.1 hj).1
      rw [hgd i hi1, hgd j hj1]
      exact once_ne ho1 hj1 hij
    · have h1 := (h.has u).1 (List.mem_of_mem_eraseIdx hu)
      have h2 := htw v hv
      rw [← e, waits_has h.once h1] at h2
      cases h2
  · rw [List.mem_append, hhas', ← filter_erase h.nd ha, List.mem_filter, h.has, ← hx]
    simp
  · have hc := h.cnt
    have e1 : (q'.filter (fun a => !a.has)).length = ((List.range q1.length).filter fun i => !(q1.getD i zRow).has && !freeQ q1 i).length := by
      rw [countP_range zRow, hlen]
      congr 1
      refine List.filter_congr (fun i hi => ?_)
      have hi1 := List.mem_range.1 hi
      have hi' : i < q'.length := by omega
      have : q'.getD i zRow = q'[i] := by simp [List.getD, hi']
      rw [this, (hrow i hi' hi1).2, hgd i hi1]
      simp
    have e2 : (q1.filter (fun a => !a.has)).length = ((List.range q1.length).filter fun i => !(q1.getD i zRow).has).length := countP_range zRow _ _
    have e3 : told.length = ((List.range q1.length).filter fun i => !(q1.getD i zRow).has && freeQ q1 i).length := by rw [htold, List.length_map]
    have e4 := filter_split (List.range q1.length) (fun i => !(q1.getD i zRow).has) (fun i => !(q1.getD i zRow).has && freeQ q1 i) (fun i => !(q1.getD i zRow).has && !freeQ q1 i) (fun i _ => by cases (q1.getD i zRow).has <;> cases freeQ q1 i <;> rfl) (fun i _ hb => by
      obtain ⟨h1, h2⟩ := hb
      simp only [Bool.and_eq_true, Bool.not_eq_true'] at h1 h2
      rw [h1.2] at h2
      exact absurd h2.2 (by simp))
    have e5 : (q.filter (fun a => !a.has)).length = (q1.filter (fun a => !a.has)).length := by
      have hkh : q[k].has = true := by
        obtain ⟨b, hb, hbw, hbh⟩ := (hasQ_iff h.once).1 hxh
        rw [row_one h.once (List.getElem_mem hk) hb (by rw [hkw, hbw])]
        exact hbh
      have hsplit : q = q.take k ++ q[k] :: q.drop (k + 1) := by rw [← List.drop_eq_getElem_cons, List.take_append_drop]
      conv => lhs; rw [hsplit]
      rw [hq1, List.eraseIdx_eq_take_drop_succ, List.filter_append, List.filter_append, List.filter_cons, hkh]
      simp
    omega
  · cases hc : waitsQ q q0[i].who with
    | false =>
      have := h.rng i hi hc
      rw [hdT_not told.length (Nat.le_refl _) (by rw [List.take_length]; exact hnt _ hc)]
      omega
    | true =>
      have := hdT_in (hd := hd) (n := n) (l := told) told.length (Nat.le_refl _) (by rw [List.take_length]; exact hturn _ hc hw)
      omega
  · have hi : i < q0.length := by omega
    cases hc : waitsQ q q0[j].who with
    | false =>
      obtain ⟨g1, g2⟩ := h.ord i j hij hj hm hc
      refine ⟨hstay _ g1, ?_⟩
      rw [hdT_not told.length (Nat.le_refl _) (by rw [List.take_length]; exact hnt _ g1), hdT_not told.length (Nat.le_refl _) (by rw [List.take_length]; exact hnt _ hc)]
      exact g2
    | true =>
      have hjt := hturn _ hc hw
      obtain ⟨b, hb, eb, _, hfree⟩ := (htm _).1 hjt
      have hp0 : (sig q0).Pairwise (fun u v => findQ q0 u.1 < findQ q0 v.1) := by
        rw [List.pairwise_iff_getElem]
        intro s t hs ht hst
        rw [sig_length] at hs ht
        have es : (sig q0)[s] = (q0[s].who, q0[s].paths) := (List.getElem?_eq_some_iff.1 (sig_get hs)).2
        have et : (sig q0)[t] = (q0[t].who, q0[t].paths) := (List.getElem?_eq_some_iff.1 (sig_get ht)).2
        rw [es, et, findQ_at hs rfl (fun m hm hms => once_ne h0 hs hms), findQ_at ht rfl (fun m hm hms => once_ne h0 ht hms)]
        omega
      have hp1 := List.Pairwise.sublist hsub1 hp0
      have hwi : findQ q0 q0[i].who = i := findQ_at hi rfl (fun m hm hms => once_ne h0 hi hms)
      have hwj : findQ q0 q0[j].who = j := findQ_at hj rfl (fun m hm hms => once_ne h0 hj hms)
      have hsame : ∀ c (hc : c < q1.length) t (ht : t < q0.length), q1[c].who = q0[t].who → q1[c].paths = q0[t].paths := fun c hc t ht e => by
        have hm1 : (q1[c].who, q1[c].paths) ∈ sig q0 := hsub1.subset (by
          have := sig_get hc
          exact List.mem_of_getElem? this)
        obtain ⟨s, hs, es⟩ := List.getElem_of_mem hm1
        rw [sig_length] at hs
        have es2 : (sig q0)[s] = (q0[s].who, q0[s].paths) := (List.getElem?_eq_some_iff.1 (sig_get hs)).2
        rw [es2] at es
        injection es with e1 e2
        have : q0[s] = q0[t] := row_one h0 (List.getElem_mem hs) (List.getElem_mem ht) (by rw [e1, e])
        rw [← e2, this]
      have hout : ∀ c (hc : c < q1.length), q1[c].who ≠ q0[i].who := fun c hc e => by
        have hcb : c < b := by
          rcases Nat.lt_trichotomy c b with h1 | h1 | h1
          · exact h1
          · subst h1
            rw [e] at eb
            have := congrArg (findQ q0) eb
            rw [hwi, hwj] at this
            omega
          · exfalso
            have hp2 := (List.pairwise_iff_getElem.1 hp1) b c (by rw [sig_length]; exact hb) (by rw [sig_length]; exact hc) h1
            have e1 : (sig q1)[b]'(by rw [sig_length]; exact hb) = (q1[b].who, q1[b].paths) := (List.getElem?_eq_some_iff.1 (sig_get hb)).2
            have e2 : (sig q1)[c]'(by rw [sig_length]; exact hc) = (q1[c].who, q1[c].paths) := (List.getElem?_eq_some_iff.1 (sig_get hc)).2
            rw [e1, e2, e, eb, hwi, hwj] at hp2
            omega
        have hmm : meetB q1[c].paths q1[b].paths = true := by rw [hsame c hc i hi e, hsame b hb j hj eb]; exact hm
        unfold freeQ at hfree
        rw [hgd b hb] at hfree
        simp only [Bool.not_eq_true', List.any_eq_false] at hfree
        exact hfree q1[c] (List.mem_take_iff_getElem.2 ⟨c, by omega, rfl⟩) hmm
      have hwq : waitsQ q q0[i].who = false := by
        cases hcc : waitsQ q q0[i].who with
        | false => rfl
        | true =>
          exfalso
          obtain ⟨r, hr, er, hrh⟩ := (waitsQ_iff h.once).1 hcc
          have hne : r.who ≠ x := fun e2 => by
            have := waits_has h.once hxh
            rw [← e2, er, hcc] at this
            cases this
          obtain ⟨c, hc, rfl⟩ := List.getElem_of_mem ((hmem r).2 ⟨hr, hne⟩)
          exact hout c hc er
      refine ⟨hstay _ hwq, ?_⟩
      have hr1 := h.rng i hi hwq
      have hr2 := hdT_in (hd := hd) (n := n) (l := told) told.length (Nat.le_refl _) (by rw [List.take_length]; exact hjt)
      rw [hdT_not told.length (Nat.le_refl _) (by rw [List.take_length]; exact hnt _ hwq)]
      omega
theorem Ends.done {q0 q : List LRow} {hd : Int → Int} {n : Nat} (h : Ends q0 q [] hd n) : q = [] ∧ n = q0.length := by
  have hq : q = [] := by
    cases q with
    | nil => rfl
    | cons a r =>
      exfalso
      have h1 : a.has = true := h.sound 0 (by simp)
      have h2 := (hasQ_iff h.once).2 ⟨a, by simp, rfl, h1⟩
      have := (h.has a.who).2 h2
      cases this
  refine ⟨hq, ?_⟩
  have := h.cnt
  rw [hq] at this
  simpa using this
theorem Ends.last {q0 : List LRow} {hs : List Int} {hd : Int → Int} {n : Nat} (h : Ends q0 [] hs hd n) {i j : Nat} (hij : i < j) (hj : j < q0.length) (hm : meetB (q0[i]'(by omega)).paths q0[j].paths = true) : hd (q0[i]'(by omega)).who < hd q0[j].who :=
  (h.ord i j hij hj hm (by rfl)).2
end Go.Proofs.YtaaeobdihfbjfaaDoor
