/-
  The reference's Set, in plain Lean: the least hit is the first one in the order; what is sorted by exchanges is what was put in one by one.
-/
import Derived.Test.YtaaeobdihfbjfaaDoorSetPlain
import Derived.Laws.Strings
set_option linter.unusedVariables false
set_option linter.unusedSimpArgs false
namespace Go.Proofs.YtaaeobdihfbjfaaDoor
/-- 'a < b', as Go compares texts. -/
def ltB (a b : ByteArray) : Bool := Op.bytesLess a.toList b.toList
theorem less_irr : ∀ x : List UInt8, Op.bytesLess x x = false
  | [] => rfl
  | a :: x => by simp [Op.bytesLess, less_irr x]
theorem less_trans : ∀ x y z : List UInt8, Op.bytesLess x y = true → Op.bytesLess y z = true → Op.bytesLess x z = true
  | x, y, [], _, h => by cases y <;> simp [Op.bytesLess] at h
  | [], y, c :: z, _, _ => by simp [Op.bytesLess]
  | a :: x, [], c :: z, h, _ => by simp [Op.bytesLess] at h
  | a :: x, b :: y, c :: z, h1, h2 => by
    simp only [Op.bytesLess, Bool.or_eq_true, decide_eq_true_eq, Bool.and_eq_true, beq_iff_eq] at h1 h2 ⊢
    rcases h1 with h1 | ⟨rfl, h1⟩
    · rcases h2 with h2 | ⟨rfl, h2⟩
      · exact .inl (UInt8.lt_trans h1 h2)
      · exact .inl h1
    · rcases h2 with h2 | ⟨rfl, h2⟩
      · exact .inl h2
      · exact .inr ⟨rfl, less_trans x y z h1 h2⟩
theorem less_tot : ∀ x y : List UInt8, Op.bytesLess x y = false → Op.bytesLess y x = false → x = y
  | [], [], _, _ => rfl
  | [], _ :: _, h, _ => by simp [Op.bytesLess] at h
  | _ :: _, [], _, h => by simp [Op.bytesLess] at h
  | a :: x, b :: y, h1, h2 => by
    simp only [Op.bytesLess, Bool.or_eq_false_iff, decide_eq_false_iff_not, Bool.and_eq_false_iff, beq_eq_false_iff_ne] at h1 h2
    have e : a = b := UInt8.le_antisymm (UInt8.not_lt.1 h2.1) (UInt8.not_lt.1 h1.1)
    subst e
    rcases h1.2 with h | h
    · exact absurd rfl h
    · rcases h2.2 with h' | h'
      · exact absurd rfl h'
      · rw [less_tot x y h h']
theorem bytes_ext {a b : ByteArray} (h : a.toList = b.toList) : a = b := by
  have h1 : a.data.toList = b.data.toList := by rw [← Lib.toList_data, ← Lib.toList_data, h]
  cases a; cases b
  simpa [Array.toList_inj] using h1
theorem ltB_irr (a : ByteArray) : ltB a a = false := less_irr _
theorem ltB_trans {a b c : ByteArray} (h : ltB a b = true) (h' : ltB b c = true) : ltB a c = true := less_trans _ _ _ h h'
theorem ltB_tot {a b : ByteArray} (h : ltB a b = false) (h' : ltB b a = false) : a = b := bytes_ext (less_tot _ _ h h')
theorem ltB_asymm {a b : ByteArray} (h : ltB a b = true) : ltB b a = false := by
  cases h' : ltB b a with
  | false => rfl
  | true => have := ltB_trans h h'; rw [ltB_irr] at this; cases this
/-- Rising. -/
def Rising (xs : List ByteArray) : Prop := xs.Pairwise (fun a b => ltB a b = true)
/-- The least hit so far, and its number. -/
def best (s : ByteArray) (p : ByteArray × Nat) (x : ByteArray) : ByteArray × Nat := match hit s x with
  | none => p
  | some d => if p.2 = 0 ∨ ltB x p.1 = true then (x, d) else p
def bests (s : ByteArray) (xs : List ByteArray) : ByteArray × Nat := xs.foldl (best s) (⟨#[]⟩, 0)
/-- p is the least hit among xs, or there is none. -/
def Best (s : ByteArray) (xs : List ByteArray) (p : ByteArray × Nat) : Prop :=
  (p.2 = 0 ∧ ∀ x ∈ xs, hit s x = none) ∨ (p.1 ∈ xs ∧ p.2 ≠ 0 ∧ hit s p.1 = some p.2 ∧ ∀ x ∈ xs, hit s x ≠ none → ltB x p.1 = false)
theorem hit_pos {s x : ByteArray} {d : Nat} (h : hit s x = some d) : d ≠ 0 := by
  unfold hit at h
  split at h
  · injection h with h; omega
  · split at h
    · injection h with h; omega
    · cases h
theorem best_next {s x : ByteArray} {xs : List ByteArray} {p : ByteArray × Nat} (h : Best s xs p) : Best s (xs ++ [x]) (best s p x) := by
  unfold best
  cases hx : hit s x with
  | none =>
    rcases h with ⟨h0, h1⟩ | ⟨h1, h2, h3, h4⟩
    · refine .inl ⟨h0, fun y hy => ?_⟩
      rcases List.mem_append.1 hy with hy | hy
      · exact h1 y hy
      · rw [List.mem_singleton.1 hy, hx]
    · refine .inr ⟨List.mem_append_left _ h1, h2, h3, fun y hy hn => ?_⟩
      rcases List.mem_append.1 hy with hy | hy
      · exact h4 y hy hn
      · rw [List.mem_singleton.1 hy] at hn; exact absurd hx hn
  | some d =>
    have hd := hit_pos hx
    rcases h with ⟨h0, h1⟩ | ⟨h1, h2, h3, h4⟩
    · simp only [h0, true_or, if_true]
      refine .inr ⟨by simp, hd, hx, fun y hy hn => ?_⟩
      rcases List.mem_append.1 hy with hy | hy
      · exact absurd (h1 y hy) hn
      · rw [List.mem_singleton.1 hy]; exact ltB_irr x
    · by_cases hlt : ltB x p.1 = true
      · simp only [hlt, or_true, if_true]
        refine .inr ⟨by simp, hd, hx, fun y hy hn => ?_⟩
        rcases List.mem_append.1 hy with hy | hy
        · cases hyx : ltB y x with
          | false => rfl
          | true => have := ltB_trans hyx hlt; rw [h4 y hy hn] at this; cases this
        · rw [List.mem_singleton.1 hy]; exact ltB_irr x
      · simp only [h2, hlt, or_self, if_false]
        refine .inr ⟨List.mem_append_left _ h1, h2, h3, fun y hy hn => ?_⟩
        rcases List.mem_append.1 hy with hy | hy
        · exact h4 y hy hn
        · rw [List.mem_singleton.1 hy]; simpa using hlt
theorem best_of (s : ByteArray) : ∀ (ys xs : List ByteArray) (p : ByteArray × Nat), Best s xs p → Best s (xs ++ ys) (ys.foldl (best s) p)
  | [], xs, p, h => by simpa using h
  | y :: ys, xs, p, h => by
    have := best_of s ys (xs ++ [y]) (best s p y) (best_next h)
    simpa using this
theorem bests_best (s : ByteArray) (xs : List ByteArray) : Best s xs (bests s xs) := by
  have := best_of s xs [] (⟨#[]⟩, 0) (.inl ⟨rfl, fun x hx => by cases hx⟩)
  rwa [List.nil_append] at this
theorem bests_next (s : ByteArray) (xs : List ByteArray) (k : Nat) (hk : k < xs.length) : bests s (xs.take (k + 1)) = best s (bests s (xs.take k)) xs[k] := by
  unfold bests
  rw [List.take_succ_eq_append_getElem hk, List.foldl_append]
  rfl
theorem scan_none {s : ByteArray} : ∀ {xs : List ByteArray}, scan s xs = none ↔ ∀ x ∈ xs, hit s x = none
  | [] => by simp [scan]
  | x :: r => by
    rw [scan]
    cases h : hit s x with
    | some c => simp [h]
    | none => simp [h, scan_none (xs := r)]
theorem scan_some {s : ByteArray} {c : Nat} : ∀ {xs : List ByteArray}, Rising xs → scan s xs = some c → ∃ y ∈ xs, hit s y = some c ∧ ∀ x ∈ xs, hit s x ≠ none → ltB x y = false
  | [], _, h => by simp [scan] at h
  | x :: r, hr, h => by
    rw [scan] at h
    have hr' := List.pairwise_cons.1 hr
    cases hx : hit s x with
    | some d =>
      rw [hx] at h
      injection h with h
      subst h
      refine ⟨x, by simp, hx, fun y hy _ => ?_⟩
      rcases List.mem_cons.1 hy with rfl | hy
      · exact ltB_irr _
      · exact ltB_asymm (hr'.1 y hy)
    | none =>
      rw [hx] at h
      obtain ⟨y, hy, h1, h2⟩ := scan_some hr'.2 h
      refine ⟨y, List.mem_cons_of_mem _ hy, h1, fun z hz hn => ?_⟩
      rcases List.mem_cons.1 hz with rfl | hz
      · exact absurd hx hn
      · exact h2 z hz hn
/-- The first hit in the order is the least one. -/
theorem scan_best {s : ByteArray} {xs ys : List ByteArray} (hp : xs.Perm ys) (hs : Rising xs) : scan s xs = if (bests s ys).2 = 0 then none else some (bests s ys).2 := by
  have hb := bests_best s ys
  cases h : scan s xs with
  | none =>
    have h0 := scan_none.1 h
    rcases hb with ⟨h1, _⟩ | ⟨h1, _, h3, _⟩
    · rw [if_pos h1]
    · have := h0 _ (hp.mem_iff.2 h1); rw [this] at h3; cases h3
  | some c =>
    obtain ⟨y, hy, h1, h2⟩ := scan_some hs h
    rcases hb with ⟨_, h4⟩ | ⟨h4, h5, h6, h7⟩
    · have := h4 y (hp.mem_iff.1 hy); rw [this] at h1; cases h1
    · have e : y = (bests s ys).1 := ltB_tot (h7 y (hp.mem_iff.1 hy) (by rw [h1]; simp)) (h2 _ (hp.mem_iff.2 h4) (by rw [h6]; simp))
      rw [if_neg h5]
      rw [← e, h1] at h6
      exact h6
theorem hit_ne {s x : ByteArray} (h : hit s x = none) : (x.toList == s.toList) = false := by
  unfold hit at h
  cases hb : x.toList == s.toList with
  | false => rfl
  | true => simp [hb] at h
theorem ins_perm (s : ByteArray) (xs : List ByteArray) : (ins s xs).Perm (xs ++ [s]) := by
  unfold ins
  have h1 : (xs.take (pos s xs) ++ s :: xs.drop (pos s xs)).Perm (s :: (xs.take (pos s xs) ++ xs.drop (pos s xs))) := List.perm_middle
  rw [List.take_append_drop] at h1
  exact h1.trans (List.perm_append_singleton s xs).symm
theorem ins_rising {s : ByteArray} {xs : List ByteArray} (hr : Rising xs) (h0 : scan s xs = none) : Rising (ins s xs) := by
  have hn := scan_none.1 h0
  have htk : ∀ x ∈ xs.take (pos s xs), ltB x s = true := by
    intro x hx
    obtain ⟨k, hk, rfl⟩ := List.getElem_of_mem hx
    have hk' : k < pos s xs := by simp at hk; omega
    have h1 := List.not_of_lt_findIdx hk'
    have hlt : k < xs.length := by have := pos_le s xs; omega
    have h2 := hit_ne (hn xs[k] (List.getElem_mem _))
    simp only [List.getElem_take]
    simp only [gtB, h2, Bool.not_false, Bool.and_true] at h1
    simpa [ltB] using h1
  have hdr : ∀ x ∈ xs.drop (pos s xs), ltB s x = true := by
    intro x hx
    obtain ⟨k, hk, rfl⟩ := List.getElem_of_mem hx
    have hk' : pos s xs + k < xs.length := by simp at hk; omega
    have hp : pos s xs < xs.length := by omega
    have h1 : gtB s xs[pos s xs] = true := List.findIdx_getElem (w := hp)
    have h2 : ltB s xs[pos s xs] = true := by
      simp only [gtB, Bool.and_eq_true, Bool.not_eq_true'] at h1
      cases h3 : ltB s xs[pos s xs] with
      | true => rfl
      | false =>
        have := ltB_tot h3 h1.1
        rw [← this] at h1
        simp at h1
    rw [List.getElem_drop]
    by_cases hk0 : k = 0
    · subst hk0; exact h2
    · exact ltB_trans h2 (List.pairwise_iff_getElem.1 hr _ _ hp hk' (by omega))
  have h1 : (xs.take (pos s xs)).Pairwise (fun a b => ltB a b = true) := List.Pairwise.sublist (List.take_sublist _ _) hr
  have h2 : (xs.drop (pos s xs)).Pairwise (fun a b => ltB a b = true) := List.Pairwise.sublist (List.drop_sublist _ _) hr
  refine List.pairwise_append.2 ⟨h1, List.pairwise_cons.2 ⟨hdr, h2⟩, fun a ha b hb => ?_⟩
  rcases List.mem_cons.1 hb with rfl | hb
  · exact htk a ha
  · exact ltB_trans (htk a ha) (hdr b hb)
/-! Sorting by exchanges. -/
def swap (xs : List ByteArray) (i k : Nat) (hi : i < xs.length) (hk : k < xs.length) : List ByteArray := (xs.set i xs[k]).set k xs[i]
theorem swap_perm {xs : List ByteArray} {i k : Nat} (hi : i < xs.length) (hk : k < xs.length) : (swap xs i k hi hk).Perm xs := List.set_set_perm hi hk
theorem swap_length {xs : List ByteArray} {i k : Nat} (hi : i < xs.length) (hk : k < xs.length) : (swap xs i k hi hk).length = xs.length := by simp [swap]
/-- The first i are in their places; none of those from i on to k is less than the i-th. -/
def Sorts (xs : List ByteArray) (i k : Nat) : Prop :=
  (∀ a b (ha : a < xs.length) (hb : b < xs.length), a < i → a < b → ltB xs[b] xs[a] = false) ∧ ∀ b (hi : i < xs.length) (hb : b < xs.length), i < b → b < k → ltB xs[b] xs[i] = false
theorem Sorts.start (xs : List ByteArray) : Sorts xs 0 1 := ⟨fun a b ha hb h => by omega, fun b hi hb h h' => by omega⟩
theorem Sorts.step {xs : List ByteArray} {i k : Nat} (h : Sorts xs i k) (hi : i < xs.length) (hk : k < xs.length) (hn : ltB xs[k] xs[i] = false) : Sorts xs i (k + 1) :=
  ⟨h.1, fun b hi' hb h1 h2 => by
    by_cases e : b = k
    · subst e; exact hn
    · exact h.2 b hi' hb h1 (by omega)⟩
theorem Sorts.done {xs : List ByteArray} {i k : Nat} (h : Sorts xs i k) (hk : xs.length ≤ k) : Sorts xs (i + 1) (i + 2) := by
  refine ⟨fun a b ha hb h1 h2 => ?_, fun b hi hb h1 h2 => by omega⟩
  by_cases e : a = i
  · subst e; exact h.2 b ha hb h2 (by omega)
  · exact h.1 a b ha hb (by omega) h2
theorem Sorts.swap {xs : List ByteArray} {i k : Nat} (h : Sorts xs i k) (hi : i < xs.length) (hk : k < xs.length) (hik : i < k) (hn : ltB xs[k] xs[i] = true) : Sorts (swap xs i k hi hk) i (k + 1) := by
  have hg : ∀ a (ha : a < (YtaaeobdihfbjfaaDoor.swap xs i k hi hk).length), (YtaaeobdihfbjfaaDoor.swap xs i k hi hk)[a] = if k = a then xs[i] else if i = a then xs[k] else xs[a]'(by rw [swap_length] at ha; exact ha) := by
    intro a ha
    simp only [YtaaeobdihfbjfaaDoor.swap, List.getElem_set]
  refine ⟨fun a b ha hb h1 h2 => ?_, fun b hi' hb h1 h2 => ?_⟩
  · rw [hg a ha, hg b hb, if_neg (by omega : ¬ k = a), if_neg (by omega : ¬ i = a)]
    split
    · exact h.1 a i _ _ h1 (by omega)
    · split
      · exact h.1 a k _ _ h1 (by omega)
      · exact h.1 a b _ _ h1 h2
  · rw [hg b hb, hg i hi', if_neg (by omega : ¬ k = i), if_pos rfl]
    split
    · exact ltB_asymm hn
    · rw [if_neg (by omega)]
      have hbx : b < xs.length := by rw [swap_length] at hb; exact hb
      have h3 := h.2 b hi hbx h1 (by omega)
      cases h4 : ltB xs[b] xs[k] with
      | false => rfl
      | true => have := ltB_trans h4 hn; rw [h3] at this; cases this
theorem rising_unique {xs ys : List ByteArray} (hr : Rising xs) (hp : ys.Perm xs) {i k : Nat} (hs : Sorts ys i k) (hi : ys.length ≤ i) : ys = xs := by
  refine List.Perm.eq_of_pairwise (le := fun a b => ltB b a = false) (fun a b _ _ h1 h2 => ltB_tot h2 h1) ?_ ?_ hp
  · exact List.pairwise_iff_getElem.2 (fun a b ha hb h => hs.1 a b ha hb (by omega) h)
  · exact hr.imp (fun h => ltB_asymm h)
end Go.Proofs.YtaaeobdihfbjfaaDoor
