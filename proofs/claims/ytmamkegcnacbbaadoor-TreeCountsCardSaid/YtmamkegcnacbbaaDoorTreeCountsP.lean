/-
  Roots that don't meet: each path is beneath, or is, just one of the first segments. Plain.
-/
import Derived.Test.YtmamkegcnacbbaaDoorTreeValid
import Derived.Test.YtmamkegcnacbbaaDoorPathPlain
set_option linter.unusedVariables false
set_option linter.unusedSimpArgs false
namespace Go.Proofs.YtmamkegcnacbbaaDoor
/-- A path's first segment. -/
def topB (p : ByteArray) : ByteArray := ⟨(headSeg p.data.toList).toArray⟩
theorem topB_data (p : ByteArray) : (topB p).data.toList = headSeg p.data.toList := by simp [topB]
theorem headSeg_no : ∀ l : List UInt8, (47 : UInt8) ∉ headSeg l
  | [] => by simp [headSeg]
  | c :: r => by
    by_cases hc : c = 47
    · subst hc; simp [headSeg]
    · have h1 : headSeg (c :: r) = c :: headSeg r := by simp [headSeg, List.takeWhile_cons, hc]
      rw [h1, List.mem_cons, not_or]
      exact ⟨fun e => hc e.symm, headSeg_no r⟩
theorem headSeg_self : ∀ {q : List UInt8}, (47 : UInt8) ∉ q → ∀ r, headSeg (q ++ 47 :: r) = q ∧ headSeg q = q
  | [], _, r => by simp [headSeg]
  | c :: q, h, r => by
    rw [List.mem_cons, not_or] at h
    obtain ⟨h1, h2⟩ := headSeg_self h.2 r
    have hc : c ≠ 47 := fun e => h.1 e.symm
    constructor
    · show headSeg (c :: (q ++ 47 :: r)) = _
      rw [show headSeg (c :: (q ++ 47 :: r)) = c :: headSeg (q ++ 47 :: r) by simp [headSeg, List.takeWhile_cons, hc], h1]
    · rw [show headSeg (c :: q) = c :: headSeg q by simp [headSeg, List.takeWhile_cons, hc], h2]
theorem headSeg_parts (l : List UInt8) (h : (headSeg l).length < l.length) : l = headSeg l ++ 47 :: l.drop ((headSeg l).length + 1) := by
  have h1 := List.take_append_drop (headSeg l).length l
  rw [headSeg_take, List.drop_eq_getElem_cons h, headSeg_end l h] at h1
  exact h1.symm
theorem headSeg_whole (l : List UInt8) (h : ¬ (headSeg l).length < l.length) : headSeg l = l := by
  have h1 := headSeg_take l
  rw [List.take_of_length_le (by omega)] at h1
  exact h1.symm
theorem partsBad_first {i a : Nat} {p : List UInt8} {ps : List (List UInt8)} (h : partsBad i a (p :: ps) = none) : segNo p = false ∧ partsBad (i + 1) (a + (p.length + 1)) ps = none := by
  rw [partsBad] at h
  split at h
  · cases h
  · split at h
    · cases h
    · rename_i h1
      split at h
      · cases h
      · exact ⟨by simpa using h1, h⟩
theorem segNo_nil : segNo [] = true := by decide
/-- A path's first segment isn't empty, nor is what comes behind its slash. -/
theorem check_top {p : ByteArray} (h : checkB p = none) : headSeg p.data.toList ≠ [] ∧ ((headSeg p.data.toList).length < p.data.toList.length → p.data.toList.drop ((headSeg p.data.toList).length + 1) ≠ []) := by
  have h1 : 1 ≤ p.size ∧ p.size ≤ 64 := by
    unfold checkB at h
    split at h
    · cases h
    · rename_i hn
      have hn2 : p.data.toList.isEmpty = false ∧ ¬ 64 < p.size := by simpa using hn
      refine ⟨?_, by omega⟩
      have := hn2.1
      rw [← Bool.not_eq_true, List.isEmpty_iff_length_eq_zero, size_len] at this
      omega
  rw [checkB_slash p h1.1 h1.2, splitSlash_head] at h
  obtain ⟨h2, h3⟩ := partsBad_first h
  refine ⟨fun e => ?_, fun hlt e => ?_⟩
  · rw [e, segNo_nil] at h2
    cases h2
  · rw [if_pos hlt, e] at h3
    have h4 : splitSlash [] = [[]] := rfl
    rw [h4] at h3
    obtain ⟨h5, _⟩ := partsBad_first h3
    rw [segNo_nil] at h5
    cases h5
theorem beneath_iff {q p : ByteArray} (hq : q.data.toList ≠ []) : (beneathB q p).2 = true ↔ ∃ r, r ≠ [] ∧ p.data.toList = q.data.toList ++ 47 :: r := by
  have hs : (slash q).data.toList = q.data.toList ++ [47] := by simp [slash]
  have he : q.toList.isEmpty = false := by
    rw [ByteArray.toList_eq, ← Bool.not_eq_true, List.isEmpty_iff]
    exact hq
  unfold beneathB
  rw [he]
  simp only [Bool.false_eq_true, if_false, Bool.and_eq_true, Bool.not_eq_true']
  have ht : (trimP p (slash q)).toList = Lib.trimPrefix p.data.toList (slash q).data.toList := by rw [ByteArray.toList_eq]; simp [trimP]
  rw [ht]
  unfold hasP Lib.hasPrefix Lib.trimPrefix
  rw [hs]
  constructor
  · rintro ⟨h1, h2⟩
    obtain ⟨r, hr⟩ := List.isPrefixOf_iff_prefix.1 h1
    refine ⟨r, fun e => ?_, by rw [← hr]; simp⟩
    rw [if_pos (by simpa [Lib.hasPrefix] using h1), ← hr, List.drop_left, e] at h2
    simp at h2
  · rintro ⟨r, hr, e⟩
    have h1 : (q.data.toList ++ [47]).isPrefixOf p.data.toList = true := List.isPrefixOf_iff_prefix.2 ⟨r, by rw [e]; simp⟩
    refine ⟨h1, ?_⟩
    rw [if_pos (by simpa [Lib.hasPrefix] using h1), e]
    have e2 : q.data.toList ++ 47 :: r = (q.data.toList ++ [47]) ++ r := by simp
    rw [e2, List.drop_left]
    cases r with
    | nil => exact absurd rfl hr
    | cons a t => rfl
/-- The first segments, each once. -/
def topsL : List ByteArray → List ByteArray
  | [] => []
  | p :: r => if memB (topB p) (topsL r) then topsL r else topB p :: topsL r
theorem topsL_mem : ∀ {l : List ByteArray} {q : ByteArray}, q ∈ topsL l ↔ ∃ p ∈ l, topB p = q
  | [], q => by simp [topsL]
  | p :: r, q => by
    have ih := topsL_mem (l := r) (q := q)
    rw [topsL]
    split
    · rename_i h
      rw [ih]
      constructor
      · rintro ⟨x, hx, e⟩
        exact ⟨x, by simp [hx], e⟩
      · rintro ⟨x, hx, e⟩
        rcases List.mem_cons.1 hx with rfl | hx
        · rw [e] at h
          exact ih.1 (memB_true.1 h)
        · exact ⟨x, hx, e⟩
    · rw [List.mem_cons, ih]
      constructor
      · rintro (rfl | ⟨x, hx, e⟩)
        · exact ⟨p, by simp, rfl⟩
        · exact ⟨x, by simp [hx], e⟩
      · rintro ⟨x, hx, e⟩
        rcases List.mem_cons.1 hx with rfl | hx
        · exact .inl e.symm
        · exact .inr ⟨x, hx, e⟩
theorem topsL_nodup : ∀ l : List ByteArray, (topsL l).Nodup
  | [] => by simp [topsL]
  | p :: r => by
    rw [topsL]
    split
    · exact topsL_nodup r
    · rename_i h
      exact List.nodup_cons.2 ⟨fun hm => h (memB_true.2 hm), topsL_nodup r⟩
theorem sum_zero (T : List ByteArray) : (T.map fun _ => (0 : Nat)).sum = 0 := by
  induction T with
  | nil => rfl
  | cons b s ih => rw [List.map_cons, List.sum_cons, ih]
theorem sum_one {T : List ByteArray} (hn : T.Nodup) {t : ByteArray} (ht : t ∈ T) (x : Nat) : (T.map fun q => if t = q then x else 0).sum = x := by
  induction T with
  | nil => cases ht
  | cons a r ih =>
    rw [List.nodup_cons] at hn
    rw [List.map_cons, List.sum_cons]
    rcases List.mem_cons.1 ht with rfl | ht
    · rw [if_pos rfl]
      have h0 : (r.map fun q => if t = q then x else 0).sum = 0 := by
        have : r.map (fun q => if t = q then x else 0) = r.map (fun _ => 0) := List.map_congr_left (fun q hq => if_neg (fun e => hn.1 (by rw [e]; exact hq)))
        rw [this]
        exact sum_zero r
      omega
    · rw [if_neg (fun e => hn.1 (by rw [← e]; exact ht)), ih hn.2 ht]
      omega
theorem sum_add (T : List ByteArray) (f g : ByteArray → Nat) : (T.map fun q => f q + g q).sum = (T.map f).sum + (T.map g).sum := by
  induction T with
  | nil => rfl
  | cons a r ih => simp only [List.map_cons, List.sum_cons, ih]; omega
/-- Sums part by part. -/
theorem sum_parts (f : ByteArray → Nat) {T : List ByteArray} (hn : T.Nodup) : ∀ {L : List ByteArray}, (∀ p ∈ L, topB p ∈ T) → (T.map fun q => sumL f (L.filter fun p => decide (topB p = q))).sum = sumL f L
  | [], _ => by
    have e : (T.map fun q => sumL f (([] : List ByteArray).filter fun p => decide (topB p = q))) = T.map fun _ => 0 := rfl
    rw [e]
    exact sum_zero T
  | p :: r, h => by
    have ih := sum_parts f hn (L := r) (fun x hx => h x (by simp [hx]))
    have e : (T.map fun q => sumL f ((p :: r).filter fun p => decide (topB p = q))) = T.map fun q => (if topB p = q then f p else 0) + sumL f (r.filter fun p => decide (topB p = q)) := List.map_congr_left (fun q _ => by
      rw [List.filter_cons]
      by_cases hp : topB p = q
      · simp [hp, sumL]
      · simp [hp])
    rw [e, sum_add, sum_one hn (h p (by simp)), ih]
    simp [sumL]
/-- What is told of a root: how many files, and how many bytes. -/
def cntR (F : List FileS) (now : Nat) (v : Int) (f : ByteArray → Nat) (q : ByteArray) : Nat := sumL f (listT now F v q).1 + (if thereB F v q then f q else 0)
theorem part_perm {now : Nat} {F : List FileS} (ho : (F.map FileS.path).Nodup) {v : Int} (h0 : 0 ≤ v) (h1 : v ≤ now) (hck : ∀ p ∈ F.map FileS.path, checkB p = none) {q : ByteArray} (hq : ∃ p ∈ (listT now F v ⟨#[]⟩).1, topB p = q) :
    ((listT now F v ⟨#[]⟩).1.filter fun p => decide (topB p = q)).Perm ((listT now F v q).1 ++ (if thereB F v q then [q] else [])) := by
  obtain ⟨p0, hp0, rfl⟩ := hq
  have hc0 := check_top (hck p0 ((list_mem h0 h1).1 hp0).1)
  have hqne : (topB p0).data.toList ≠ [] := by rw [topB_data]; exact hc0.1
  have hqno : (47 : UInt8) ∉ (topB p0).data.toList := by rw [topB_data]; exact headSeg_no _
  generalize topB p0 = q at hqne hqno
  have hqe : q ≠ ⟨#[]⟩ := fun e => hqne (by rw [e])
  have htopq : topB q = q := ba_ext (by rw [topB_data]; exact (headSeg_self hqno []).2)
  refine nodup_perm ((list_nodup ho _ _).filter _) ?_ (fun p => ?_)
  · rw [List.nodup_append]
    refine ⟨list_nodup ho _ _, ?_, fun a ha b hb e => ?_⟩
    · split <;> simp
    · split at hb
      · obtain rfl := List.mem_singleton.1 hb
        subst e
        obtain ⟨r, hr, e2⟩ := (beneath_iff hqne).1 ((list_mem h0 h1).1 ha).2.1
        have := congrArg List.length e2
        simp at this
      · cases hb
  · rw [List.mem_filter, List.mem_append, list_mem h0 h1, list_mem h0 h1]
    constructor
    · rintro ⟨⟨a, b, c⟩, e⟩
      have e : topB p = q := by simpa using e
      have hcp := check_top (hck p a)
      have hd := congrArg (fun x : ByteArray => x.data.toList) e
      simp only [topB_data] at hd
      by_cases hlt : (headSeg p.data.toList).length < p.data.toList.length
      · refine .inl ⟨a, (beneath_iff hqne).2 ⟨_, hcp.2 hlt, ?_⟩, c⟩
        have := headSeg_parts _ hlt
        rw [hd] at this ⊢
        exact this
      · have hpq : p = q := ba_ext (by rw [← hd]; exact (headSeg_whole _ hlt).symm)
        subst hpq
        refine .inr ?_
        rw [if_pos c]
        simp
    · rintro (⟨a, b, c⟩ | h)
      · obtain ⟨r, hr, e⟩ := (beneath_iff hqne).1 b
        refine ⟨⟨a, beneath_root.2 (check_nonempty (hck p a)), c⟩, ?_⟩
        rw [decide_eq_true_eq]
        refine ba_ext ?_
        rw [topB_data, e]
        exact (headSeg_self hqno r).1
      · split at h
        · rename_i hth
          obtain rfl := List.mem_singleton.1 h
          exact ⟨⟨there_path hth, beneath_root.2 hqe, hth⟩, by simp [htopq]⟩
        · cases h
/-- All together. -/
theorem tops_all {now : Nat} {F : List FileS} (ho : (F.map FileS.path).Nodup) {v : Int} (h0 : 0 ≤ v) (h1 : v ≤ now) (hck : ∀ p ∈ F.map FileS.path, checkB p = none) (f : ByteArray → Nat) :
    ((topsL (listT now F v ⟨#[]⟩).1).map (cntR F now v f)).sum = sumL f (listT now F v ⟨#[]⟩).1 := by
  rw [← sum_parts f (topsL_nodup (listT now F v ⟨#[]⟩).1) (fun p hp => topsL_mem.2 ⟨p, hp, rfl⟩)]
  congr 1
  refine List.map_congr_left (fun q hq => ?_)
  rw [sumL_perm (part_perm ho h0 h1 hck (topsL_mem.1 hq)), sumL_app, cntR]
  congr 1
  split <;> simp [sumL]
theorem sumL_count (l : List ByteArray) : sumL (fun _ => 1) l = l.length := by
  induction l with
  | nil => rfl
  | cons a r ih => simp only [sumL, List.map_cons, List.sum_cons, List.length_cons] at ih ⊢; omega
end Go.Proofs.YtmamkegcnacbbaaDoor
