/-
  What a version that was committed keeps to: no clashes, not too many files, not too many bytes.
-/
import Derived.Test.YtlidenehfmlebaaGreatDoorTreeScript
set_option linter.unusedVariables false
set_option linter.unusedSimpArgs false
namespace Go.Proofs.YtlidenehfmlebaaGreatDoor
theorem hasP_longer (a : ByteArray) : hasP a (slash a) = false := by
  cases h : hasP a (slash a) with
  | false => rfl
  | true =>
    have := hasP_size h
    rw [slash_size] at this
    omega
theorem clashB_self (a : ByteArray) : clashB a a = false := by unfold clashB; rw [hasP_longer]; rfl
theorem clash_set {l : List ByteArray} : clashL l = false ↔ ∀ a ∈ l, ∀ b ∈ l, clashB a b = false := by
  have h1 : clashL l = false ↔ ∀ i (hi : i < l.length) j (hj : j < i), clashB l[i] (l[j]'(by omega)) = false := by
    unfold clashL
    rw [List.any_eq_false]
    constructor
    · intro h i hi j hj
      have := h i (List.mem_range.2 hi)
      rw [Bool.not_eq_true, List.any_eq_false] at this
      have h3 := this (l[j]'(by omega)) (List.mem_iff_getElem.2 ⟨j, by simp; omega, by simp⟩)
      simpa [List.getD, hi] using h3
    · intro h i hi
      have hi := List.mem_range.1 hi
      rw [Bool.not_eq_true, List.any_eq_false]
      intro q hq
      obtain ⟨j, hj, rfl⟩ := List.mem_iff_getElem.1 hq
      have hj2 : j < i := by simp at hj; omega
      have := h i hi j hj2
      simp [List.getD, hi, this]
  rw [h1]
  constructor
  · intro h a ha b hb
    obtain ⟨i, hi, rfl⟩ := List.mem_iff_getElem.1 ha
    obtain ⟨j, hj, rfl⟩ := List.mem_iff_getElem.1 hb
    rcases Nat.lt_trichotomy i j with hlt | rfl | hlt
    · rw [clashB_comm]; exact h j hj i hlt
    · exact clashB_self _
    · exact h i hi j hlt
  · exact fun h i hi j hj => h _ (List.getElem_mem hi) _ (List.getElem_mem _)
/-- What a version keeps to. -/
structure ValidT (now : Nat) (F : List FileS) : Prop where
  clash : ∀ a ∈ (listT now F now ⟨#[]⟩).1, ∀ b ∈ (listT now F now ⟨#[]⟩).1, clashB a b = false
  count : (listT now F now ⟨#[]⟩).1.length ≤ 64
  bytes : sumL (lenAt F now) (listT now F now ⟨#[]⟩).1 ≤ 262144
theorem endT_nil {now m : Nat} {after : List ByteArray} {n : Nat} : endT now m after n = .nil ↔ (∀ a ∈ after, ∀ b ∈ after, clashB a b = false) ∧ after.length ≤ 64 ∧ n ≤ 262144 ∧ now ≠ 1048576 := by
  unfold endT
  rw [← clash_set]
  constructor
  · intro h
    split at h
    · cases h
    · rename_i h1
      split at h
      · cases h
      · rename_i h2
        exact ⟨by simpa using h1, by omega, by omega, by omega⟩
  · rintro ⟨h1, h2, h3, h4⟩
    rw [if_neg (by simp [h1]), if_neg (by omega)]
theorem endT_code {now m : Nat} {after : List ByteArray} {n : Nat} : endT now m after n = .nil ∨ endT now m after n = .fault m 90 ∨ endT now m after n = .fault m 3 := by
  unfold endT
  split
  · exact .inr (.inl rfl)
  · split
    · exact .inr (.inr rfl)
    · exact .inl rfl
def putsOf (l : List ChgD) : List ChgD := l.filter fun c => !c.2.2
theorem chkGo_after {T : ByteArray → Bool} : ∀ {l : List ChgD} {i : Nat} {seen after : List ByteArray} {n : Nat} {af : List ByteArray} {m : Nat}, chkGo T i seen after n l = .ok af m → af = after ++ (putsOf l).map (·.1) ∧ m = n + ((putsOf l).map fun c => c.2.1.length).sum
  | [], _, _, _, _, _, _, h => by
    rw [chkGo] at h
    injection h with h1 h2
    simp [putsOf, h1, h2]
  | c :: r, i, seen, after, n, af, m, h => by
    rw [chkGo] at h
    split at h
    · cases h
    · split at h
      · cases h
      · split at h
        · cases h
        · split at h
          · cases h
          · obtain ⟨h1, h2⟩ := chkGo_after h
            cases hg : c.2.2 with
            | true =>
              have e : putsOf (c :: r) = putsOf r := by simp [putsOf, hg]
              rw [hg] at h1 h2
              rw [e]
              exact ⟨h1, h2⟩
            | false =>
              have e : putsOf (c :: r) = c :: putsOf r := by simp [putsOf, hg]
              rw [hg] at h1 h2
              simp only [Bool.false_eq_true, if_false] at h1 h2
              rw [e, h1, h2]
              simp
              omega
theorem beneath_root {q : ByteArray} : (beneathB ⟨#[]⟩ q).2 = true ↔ q ≠ ⟨#[]⟩ := by
  unfold beneathB
  simp [ByteArray.ext_iff, ByteArray.toList_eq]
theorem check_nonempty {p : ByteArray} (h : checkB p = none) : p ≠ ⟨#[]⟩ := fun e => by
  subst e
  revert h
  decide
theorem sum_le_mem {f g : ByteArray → Nat} {l : List ByteArray} (h : ∀ p ∈ l, f p = g p) : sumL f l = sumL g l := by
  unfold sumL
  rw [List.map_congr_left h]
theorem sumL_perm {f : ByteArray → Nat} {l r : List ByteArray} (h : l.Perm r) : sumL f l = sumL f r := sum_perm (h.map f)
theorem sumL_app (f : ByteArray → Nat) (l r : List ByteArray) : sumL f (l ++ r) = sumL f l + sumL f r := by simp [sumL]
theorem list_nodup {now : Nat} {F : List FileS} (ho : (F.map FileS.path).Nodup) (v : Int) (root : ByteArray) : (listT now F v root).1.Nodup := by
  rw [listT]
  split
  · exact List.nodup_nil
  · exact (sortB_sub _).nodup_iff.2 (ho.filter _)
/-- The listing behind changes. -/
theorem list_behind {now B : Nat} {F F' : List FileS} {l : List ChgD} (hc : chkT now F l = .nil) (hp : Puts (now + 1) B F l F') (hr : RiseF now F) (ho : (F.map FileS.path).Nodup) :
    ((listT (now + 1) F' ((now : Int) + 1) ⟨#[]⟩).1).Perm ((putsOf l).map (·.1) ++ stayL F now (l.map (·.1))) ∧ (∀ c ∈ putsOf l, lenAt F' ((now : Int) + 1) c.1 = c.2.1.length) ∧ (∀ q ∈ stayL F now (l.map (·.1)), lenAt F' ((now : Int) + 1) q = lenAt F now q) := by
  obtain ⟨hn, hck, _⟩ := chkT_once hc
  have hge : ∀ c ∈ putsOf l, c ∈ l ∧ c.2.2 = false := fun c h => by
    obtain ⟨a, b⟩ := List.mem_filter.1 h
    exact ⟨a, by simpa using b⟩
  have hst : ∀ q, q ∈ stayL F now (l.map (·.1)) ↔ q ∈ (listT now F now ⟨#[]⟩).1 ∧ q ∉ l.map (·.1) := fun q => by
    unfold stayL
    rw [List.mem_filter]
    constructor
    · rintro ⟨a, b⟩
      refine ⟨a, fun hm => ?_⟩
      rw [memB_true.2 hm] at b
      cases b
    · rintro ⟨a, b⟩
      refine ⟨a, ?_⟩
      cases hm : memB q (l.map (·.1)) with
      | true => exact absurd (memB_true.1 hm) b
      | false => rfl
  have hat : ∀ q, q ∉ l.map (·.1) → atRow F' ((now : Int) + 1) q = atRow F now q := fun q hq => by
    rw [puts_not hp hq]
    exact rise_top hr (by omega) (by omega) q
  refine ⟨nodup_perm (list_nodup (puts_size hp ho).2 _ _) ?_ (fun q => ?_), fun c hcm => ?_, fun q hq => ?_⟩
  · rw [List.nodup_append]
    refine ⟨hn.sublist ((List.filter_sublist).map _), ((list_nodup ho _ _).filter _), fun a ha b hb e => ?_⟩
    obtain ⟨c, hcm, rfl⟩ := List.mem_map.1 ha
    exact ((hst b).1 hb).2 (e ▸ List.mem_map.2 ⟨c, (hge c hcm).1, rfl⟩)
  · rw [List.mem_append, hst]
    by_cases hq : q ∈ l.map (·.1)
    · obtain ⟨c, hcl, rfl⟩ := List.mem_map.1 hq
      obtain ⟨dv, _, e⟩ := puts_mem hp hn (ver := (now : Int) + 1) (by omega) hcl
      have hth : thereB F' ((now : Int) + 1) c.1 = !c.2.2 := by unfold thereB; rw [e]
      rw [list_mem (by omega) (by omega)]
      constructor
      · rintro ⟨_, _, h3⟩
        rw [hth] at h3
        exact .inl (List.mem_map.2 ⟨c, List.mem_filter.2 ⟨hcl, h3⟩, rfl⟩)
      · rintro (h | h)
        · obtain ⟨c', hc', e'⟩ := List.mem_map.1 h
          obtain ⟨a, b⟩ := hge c' hc'
          obtain ⟨dv', _, e2⟩ := puts_mem hp hn (ver := (now : Int) + 1) (by omega) a
          have hth' : thereB F' ((now : Int) + 1) c.1 = true := by
            unfold thereB
            rw [← show c'.1 = c.1 from e', e2]
            simp [b]
          exact ⟨there_path hth', beneath_root.2 (check_nonempty (hck c hcl)), hth'⟩
        · exact absurd hq h.2
    · have hth : thereB F' ((now : Int) + 1) q = thereB F now q := by unfold thereB; rw [hat q hq]
      rw [list_mem (by omega) (by omega), list_mem (by omega) (by omega), hth]
      constructor
      · rintro ⟨_, h2, h3⟩
        exact .inr ⟨⟨there_path h3, h2, h3⟩, hq⟩
      · rintro (h | h)
        · obtain ⟨c', hc', e'⟩ := List.mem_map.1 h
          exact absurd (List.mem_map.2 ⟨c', (hge c' hc').1, e'⟩) hq
        · obtain ⟨_, h2, h3⟩ := h.1
          exact ⟨there_path (by rw [hth]; exact h3), h2, h3⟩
  · obtain ⟨a, b⟩ := hge c hcm
    obtain ⟨dv, _, e⟩ := puts_mem hp hn (ver := (now : Int) + 1) (by omega) a
    unfold lenAt
    rw [e]
  · unfold lenAt
    rw [hat q ((hst q).1 hq).2]
theorem sumL_map (f : ByteArray → Nat) (l : List ChgD) (h : ∀ c ∈ l, f c.1 = c.2.1.length) : sumL f (l.map (·.1)) = (l.map fun c => c.2.1.length).sum := by
  unfold sumL
  rw [List.map_map]
  congr 1
  exact List.map_congr_left (fun c hc => h c hc)
theorem valid_puts {now B : Nat} {F F' : List FileS} {l : List ChgD} (hc : chkT now F l = .nil) (hp : Puts (now + 1) B F l F') (hr : RiseF now F) (ho : (F.map FileS.path).Nodup) : ValidT (now + 1) F' := by
  obtain ⟨h1, h2, h3⟩ := list_behind hc hp hr ho
  obtain ⟨af, m, hgo, hend⟩ := chkT_ok hc
  obtain ⟨rfl, rfl⟩ := chkGo_after hgo
  rw [List.nil_append] at hend
  obtain ⟨e1, e2, e3, _⟩ := endT_nil.1 hend
  have hcast : ((now + 1 : Nat) : Int) = (now : Int) + 1 := by omega
  refine ⟨fun a ha b hb => ?_, ?_, ?_⟩
  · rw [hcast] at ha hb
    exact e1 a (h1.mem_iff.1 ha) b (h1.mem_iff.1 hb)
  · rw [hcast, h1.length_eq]
    exact e2
  · rw [hcast, sumL_perm h1, sumL_app, sumL_map _ _ h2, sum_le_mem h3]
    omega
theorem valid_none : ValidT 0 [] := by
  have e : (listT 0 [] (0 : Nat) ⟨#[]⟩).1 = [] := by
    rw [listT, if_neg (by omega)]
    simp [sortB]
  refine ⟨fun a ha => ?_, ?_, ?_⟩
  · rw [e] at ha; cases ha
  · rw [e]; simp
  · rw [e]; simp [sumL]
/-- Some files less keep to it, too. -/
theorem valid_stay {now : Nat} {F : List FileS} (h : ValidT now F) (seen : List ByteArray) : (∀ a ∈ stayL F now seen, ∀ b ∈ stayL F now seen, clashB a b = false) ∧ (stayL F now seen).length ≤ 64 ∧ sumL (lenAt F now) (stayL F now seen) ≤ 262144 := by
  have hs : ∀ a ∈ stayL F now seen, a ∈ (listT now F now ⟨#[]⟩).1 := fun a ha => (List.mem_filter.1 ha).1
  refine ⟨fun a ha b hb => h.clash a (hs a ha) b (hs b hb), Nat.le_trans (List.length_filter_le _ _) h.count, Nat.le_trans ?_ h.bytes⟩
  unfold stayL
  generalize (listT now F now ⟨#[]⟩).1 = L
  induction L with
  | nil => simp [sumL]
  | cons a r ih =>
    rw [List.filter_cons]
    split
    · simp only [sumL, List.map_cons, List.sum_cons] at ih ⊢
      omega
    · simp only [sumL, List.map_cons, List.sum_cons] at ih ⊢
      omega
/-- Nothing can be committed. -/
theorem chk_nothing {now : Nat} {F : List FileS} (h : ValidT now F) (hn : now < 1048576) : chkT now F [] = .nil := by
  obtain ⟨a, b, c⟩ := valid_stay h []
  unfold chkT
  rw [chkGo]
  exact endT_nil.2 ⟨by simpa using a, by simpa using b, by simpa using c, by omega⟩
/-- What is there can be taken out. -/
theorem chk_gone {now : Nat} {F : List FileS} (h : ValidT now F) (hn : now < 1048576) {p : ByteArray} (hp : checkB p = none) (ht : thereB F now p = true) : chkT now F [(p, [], true)] = .nil := by
  obtain ⟨a, b, c⟩ := valid_stay h [p]
  unfold chkT
  have e : chkGo (thereB F now) 0 [] [] 0 [(p, [], true)] = .ok [] 0 := by simp [chkGo, hp, memB, ht]
  rw [e]
  exact endT_nil.2 ⟨by simpa using a, by simpa using b, by simpa using c, by omega⟩
theorem chk_one_code {now : Nat} {F : List FileS} {p : ByteArray} {d : List Int} (hp : checkB p = none) : chkT now F [(p, d, false)] = .nil ∨ chkT now F [(p, d, false)] = .fault 1 90 ∨ chkT now F [(p, d, false)] = .fault 1 3 := by
  unfold chkT
  have e : chkGo (thereB F now) 0 [] [] 0 [(p, d, false)] = .ok [p] d.length := by simp [chkGo, hp, memB]
  rw [e]
  exact endT_code
end Go.Proofs.YtlidenehfmlebaaGreatDoor
