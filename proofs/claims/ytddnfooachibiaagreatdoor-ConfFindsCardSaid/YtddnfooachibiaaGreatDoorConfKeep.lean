/-
  conf: what is read is right, and is read again as it was: in plain Lean.
-/
import Derived.Test.YtddnfooachibiaaGreatDoorConfWriteP
import Derived.Test.YtddnfooachibiaaGreatDoorPathPlain3
set_option linter.unusedVariables false
set_option linter.unusedSimpArgs false
namespace Go.Proofs.YtddnfooachibiaaGreatDoor
open Go
theorem in_seg : ∀ (l : List UInt8) (c : UInt8), c ∈ l → c = 47 ∨ ∃ p ∈ splitSlash l, c ∈ p
  | [], c, h => by cases h
  | a :: r, c, h => by
    by_cases ha : a = 47
    · rcases List.mem_cons.1 h with h | h
      · exact .inl (h.trans ha)
      · rcases in_seg r c h with h | ⟨p, hp, hc⟩
        · exact .inl h
        · exact .inr ⟨p, by rw [splitSlash, if_pos ha]; exact List.mem_cons_of_mem _ hp, hc⟩
    · rw [splitSlash, if_neg ha]
      cases hs : splitSlash r with
      | nil =>
        rcases List.mem_cons.1 h with h | h
        · exact .inr ⟨[a], by simp [consHead], by simp [h]⟩
        · rcases in_seg r c h with h | ⟨p, hp, hc⟩
          · exact .inl h
          · rw [hs] at hp; cases hp
      | cons q t =>
        rcases List.mem_cons.1 h with h | h
        · exact .inr ⟨a :: q, by simp [consHead], by simp [h]⟩
        · rcases in_seg r c h with h | ⟨p, hp, hc⟩
          · exact .inl h
          · rw [hs] at hp
            rcases List.mem_cons.1 hp with rfl | hp
            · exact .inr ⟨a :: p, by simp [consHead], List.mem_cons_of_mem _ hc⟩
            · exact .inr ⟨p, by simp [consHead, hp], hc⟩
structure WeakM (m : ModC) : Prop where
  name : nameC m.name = true
  root : m.root.data.toList = [] ∨ checkB m.root = none
  sl : 1 ≤ m.sl ∧ m.sl ≤ 16
  qu : 0 ≤ m.qu ∧ m.qu ≤ 262144
  us : ∀ u ∈ m.us, GoodU u
  most : m.us.length ≤ 8
  once : (m.us.map (·.1)).Nodup
theorem putC_keep {m m' : ModC} {k v : ByteArray} (h : WeakM m) (hp : putC m k v = .ok m') : WeakM m' ∧ m'.name = m.name := by
  unfold putC at hp
  split at hp
  · split at hp
    · cases hp
    · rename_i hc
      injection hp with hp
      subst hp
      refine ⟨⟨h.name, .inr ?_, h.sl, h.qu, h.us, h.most, h.once⟩, rfl⟩
      cases hv : checkB v with
      | none => rfl
      | some q => rw [hv] at hc; exact absurd rfl hc
  · split at hp
    · split at hp
      · injection hp with hp
        subst hp
        exact ⟨⟨h.name, h.root, h.sl, h.qu, h.us, h.most, h.once⟩, rfl⟩
      · split at hp
        · injection hp with hp
          subst hp
          exact ⟨h, rfl⟩
        · cases hp
    · split at hp
      · split at hp
        · rename_i hn
          injection hp with hp
          subst hp
          exact ⟨⟨h.name, h.root, hn, h.qu, h.us, h.most, h.once⟩, rfl⟩
        · cases hp
      · split at hp
        · split at hp
          · rename_i hn
            injection hp with hp
            subst hp
            exact ⟨⟨h.name, h.root, h.sl, hn, h.us, h.most, h.once⟩, rfl⟩
          · cases hp
        · cases hp
theorem last_suffix {a b : List UInt8} (h : a <:+ b) (hn : a ≠ []) : a.getLast? = b.getLast? := by
  obtain ⟨q, rfl⟩ := h
  rw [List.getLast?_append]
  cases hd : a.getLast? with
  | none => rw [List.getLast?_eq_none_iff] at hd; exact absurd hd hn
  | some c => rfl
theorem userC_keep {m m' : ModC} {v : ByteArray} (h : WeakM m) (hv : (10 : UInt8) ∉ v.data.toList) (hl : v.data.toList.getLast? ≠ some 32) (hp : userC m v = .ok m') : WeakM m' ∧ m'.name = m.name := by
  have hsuf := cut_suffix v.data.toList [58]
  unfold userC at hp
  split at hp
  · cases hp
  · rename_i h1
    split at hp
    · cases hp
    · rename_i h2
      split at hp
      · cases hp
      · rename_i h3
        split at hp
        · cases hp
        · rename_i h4
          injection hp with hp
          subst hp
          have h1b : (Lib.cut v.data.toList [58]).2.1 ≠ [] := fun e => h1 (.inr (.inl e))
          have h1c : ¬ 16 < (Lib.cut v.data.toList [58]).2.1.length := fun e => h1 (.inr (.inr e))
          have hn : nameC (bA (Lib.cut v.data.toList [58]).1) = true := by simpa using h2
          have hu : GoodU (bA (Lib.cut v.data.toList [58]).1, bA (Lib.cut v.data.toList [58]).2.1) := ⟨hn, h1b, by show (Lib.cut v.data.toList [58]).2.1.length ≤ 16; omega, fun hm => hv (hsuf.subset hm), by
            show (Lib.cut v.data.toList [58]).2.1.getLast? ≠ some 32
            rw [last_suffix hsuf h1b]
            exact hl⟩
          refine ⟨⟨h.name, h.root, h.sl, h.qu, fun u hu' => ?_, ?_, ?_⟩, rfl⟩
          · rcases List.mem_append.1 hu' with hu' | hu'
            · exact h.us u hu'
            · rw [List.mem_singleton.1 hu']; exact hu
          · rw [List.length_append, List.length_singleton]; omega
          · rw [List.map_append, List.nodup_append]
            refine ⟨h.once, by simp, fun a ha b hb e => ?_⟩
            have hb' : b = bA (Lib.cut v.data.toList [58]).1 := by simpa using hb
            subst e
            obtain ⟨x, hx, e2⟩ := List.mem_map.1 ha
            apply h3
            unfold secretC
            rw [Option.isSome_map, List.find?_isSome]
            exact ⟨x, hx, by simp [e2, hb']⟩
structure GoodSt (st : StC) : Prop where
  ms : ∀ m ∈ st.ms, WeakM m
  most : st.ms.length ≤ 8
  once : (st.ms.map (·.name)).Nodup
theorem openC_keep {st st' : StC} {l : List UInt8} (h : GoodSt st) (ho : openC st l = .ok st') : GoodSt st' := by
  unfold openC at ho
  split at ho
  · cases ho
  · split at ho
    · cases ho
    · rename_i h2
      split at ho
      · cases ho
      · rename_i h3
        split at ho
        · cases ho
        · rename_i h4
          injection ho with ho
          subst ho
          have hn : nameC (bA (Lib.trimSuffix (l.drop 1) [93])) = true := by simpa using h2
          refine ⟨fun m hm => ?_, by rw [List.length_append, List.length_singleton]; omega, ?_⟩
          · rcases List.mem_append.1 hm with hm | hm
            · exact h.ms m hm
            · rw [List.mem_singleton.1 hm]
              exact ⟨hn, .inl rfl, ⟨(by show (1 : Int) ≤ 16; omega), (by show (16 : Int) ≤ 16; omega)⟩, ⟨(by show (0 : Int) ≤ 262144; omega), (by show (262144 : Int) ≤ 262144; omega)⟩, (fun u hu => by cases hu), by show 0 ≤ 8; omega, List.nodup_nil⟩
          · rw [List.map_append, List.nodup_append]
            refine ⟨h.once, by simp, fun a ha b hb e => ?_⟩
            have hb' : b = bA (Lib.trimSuffix (l.drop 1) [93]) := by simpa [newMod] using hb
            subst e
            obtain ⟨x, hx, e2⟩ := List.mem_map.1 ha
            apply h3
            unfold findC
            rw [List.find?_isSome]
            exact ⟨x, hx, by simp [e2, hb']⟩
theorem badAt_all : ∀ (l : List UInt8) (k : Nat), badAt k l = none → ∀ c ∈ l, signB c = true
  | [], _, _, c, h => by cases h
  | a :: r, k, hb, c, h => by
    rw [badAt] at hb
    split at hb
    · rename_i ha
      rcases List.mem_cons.1 h with rfl | h
      · exact ha
      · exact badAt_all r (k + 1) hb c h
    · cases hb
theorem path_clean {s : ByteArray} (h : checkB s = none) : (32 : UInt8) ∉ s.data.toList ∧ (10 : UInt8) ∉ s.data.toList := by
  have hseg := ((checkB_none s).1 h).2.2.2
  have key : ∀ c : UInt8, c ≠ 47 → signB c = false → c ∉ s.data.toList := fun c h1 h2 hc => by
    rcases in_seg _ c hc with h3 | ⟨p, hp, hcp⟩
    · exact h1 h3
    · have := badAt_all p 0 (hseg p hp).2 c hcp
      rw [h2] at this
      cases this
  exact ⟨key 32 (by decide) (by decide), key 10 (by decide) (by decide)⟩
theorem trimB_in {l : List UInt8} {c : UInt8} (h : c ∈ Lib.trimB l 32) : c ∈ l :=
  (right_prefix l).subset ((List.dropWhile_suffix _).subset h)
theorem setC_keep {m : ModC} {seen : List ByteArray} {k v : ByteArray} {r : ModC × List ByteArray} (h : WeakM m) (hv : (10 : UInt8) ∉ v.data.toList) (hl : v.data.toList.getLast? ≠ some 32) (hp : setC m seen k v = .ok r) : WeakM r.1 ∧ r.1.name = m.name := by
  unfold setC at hp
  split at hp
  · cases hu : userC m v with
    | error e => rw [hu] at hp; cases hp
    | ok m' =>
      rw [hu] at hp
      injection hp with hp
      subst hp
      exact userC_keep h hv hl hu
  · split at hp
    · cases hp
    · cases hu : putC m k v with
      | error e => rw [hu] at hp; cases hp
      | ok m' =>
        rw [hu] at hp
        injection hp with hp
        subst hp
        exact putC_keep h hu
theorem lineC_keep {st st' : StC} {raw : List UInt8} (h : GoodSt st) (h10 : (10 : UInt8) ∉ raw) (ho : lineC st raw = .ok st') : GoodSt st' := by
  unfold lineC at ho
  have ht := trimB_again raw
  have hc : (10 : UInt8) ∉ Lib.trimB raw 32 := fun hm => h10 (trimB_in hm)
  generalize Lib.trimB raw 32 = l at ho ht hc
  obtain ⟨hr, hlf⟩ := trim_parts ht
  have hend : l.getLast? ≠ some 32 := fun e => by
    by_cases hn : l = []
    · rw [hn] at e; cases e
    · obtain ⟨q, c, rfl⟩ : ∃ q c, l = q ++ [c] := ⟨l.dropLast, l.getLast hn, (List.dropLast_concat_getLast hn).symm⟩
      have hc32 : c = 32 := by simpa using e
      subst hc32
      have := congrArg List.length hr
      have h2 := (List.dropWhile_suffix (· == (32 : UInt8)) (l := q.reverse)).length_le
      simp only [Lib.trimRightB, List.reverse_append, List.reverse_cons, List.reverse_nil, List.nil_append, List.singleton_append, List.dropWhile_cons, beq_self_eq_true, if_true, List.length_reverse, List.length_append, List.length_singleton] at this h2
      omega
  unfold lineT at ho
  split at ho
  · injection ho with ho
    subst ho
    exact h
  · split at ho
    · exact openC_keep h ho
    · split at ho
      · cases ho
      · cases hm : st.ms.getLast? with
        | none => rw [hm] at ho; cases ho
        | some m =>
          rw [hm] at ho
          simp only at ho
          cases hs : setC m st.seen (keyC l) (valC l) with
          | error e => rw [hs] at ho; cases ho
          | ok r =>
            rw [hs] at ho
            injection ho with ho
            subst ho
            have hne : st.ms ≠ [] := fun e => by rw [e] at hm; cases hm
            have hsp : st.ms.dropLast ++ [m] = st.ms := by
              have hg : st.ms.getLast hne = m := by
                rw [List.getLast?_eq_some_getLast hne] at hm
                exact Option.some.inj hm
              rw [← hg]
              exact List.dropLast_concat_getLast hne
            have hvs : (valC l).data.toList <:+ l := (List.dropWhile_suffix _).trans (cut_suffix l [61])
            have hkeep := setC_keep (h.ms m (by rw [← hsp]; simp)) (fun hm2 => hc (hvs.subset hm2)) (fun e => by
              by_cases hn : (valC l).data.toList = []
              · rw [hn] at e; cases e
              · rw [last_suffix hvs hn] at e; exact hend e) hs
            have hlen : (st.ms.dropLast ++ [r.1]).length = st.ms.length := by
              have := congrArg List.length hsp
              simpa using this
            refine ⟨fun x hx => ?_, by show (st.ms.dropLast ++ [r.1]).length ≤ 8; rw [hlen]; exact h.most, ?_⟩
            · rcases List.mem_append.1 hx with hx | hx
              · exact h.ms x (by rw [← hsp]; exact List.mem_append_left _ hx)
              · rw [List.mem_singleton.1 hx]; exact hkeep.1
            · have : (st.ms.dropLast ++ [r.1]).map (·.name) = st.ms.map (·.name) := by
                conv => rhs; rw [← hsp]
                rw [List.map_append, List.map_append, List.map_cons, List.map_cons, hkeep.2]
              show ((st.ms.dropLast ++ [r.1]).map (·.name)).Nodup
              rw [this]
              exact h.once
theorem linesL_clean : ∀ (l : List UInt8), ∀ x ∈ linesL l, (10 : UInt8) ∉ x
  | [], x, h => by
    rw [linesL] at h
    rw [List.mem_singleton.1 h]
    simp
  | c :: r, x, h => by
    have ih := linesL_clean r
    rw [linesL] at h
    split at h
    · rcases List.mem_cons.1 h with rfl | h
      · simp
      · exact ih x h
    · rename_i hc
      cases hs : linesL r with
      | nil => exact absurd hs (linesL_some r)
      | cons q t =>
        rw [hs] at h ih
        simp only at h
        rcases List.mem_cons.1 h with rfl | h
        · intro hm
          rcases List.mem_cons.1 hm with hm | hm
          · exact hc hm.symm
          · exact ih q List.mem_cons_self hm
        · exact ih x (List.mem_cons_of_mem _ h)
theorem parseL_keep : ∀ (ls : List (List UInt8)) (i : Nat) (st st' : StC), GoodSt st → (∀ x ∈ ls, (10 : UInt8) ∉ x) → parseL i st ls = .ok st' → GoodSt st'
  | [], i, st, st', h, _, hp => by
    injection hp with hp
    subst hp
    exact h
  | l :: t, i, st, st', h, hc, hp => by
    rw [parseL] at hp
    cases hl : lineC st l with
    | error e => rw [hl] at hp; cases hp
    | ok st1 =>
      rw [hl] at hp
      exact parseL_keep t (i + 1) st1 st' (lineC_keep h (hc l List.mem_cons_self) hl) (fun x hx => hc x (List.mem_cons_of_mem _ hx)) hp
theorem wholeC_root : ∀ (ms : List ModC) (i : Nat) (before : List ModC), wholeC i before ms = .nil → ∀ m ∈ ms, m.root.data.toList ≠ []
  | [], _, _, _, m, h => by cases h
  | a :: t, i, before, hw, m, h => by
    rw [wholeC] at hw
    split at hw
    · cases hw
    · rename_i ha
      split at hw
      · cases hw
      · rcases List.mem_cons.1 h with rfl | h
        · exact ha
        · exact wholeC_root t _ _ hw m h
/-- What is read is right. -/
theorem parse_good {s : ByteArray} {ms : List ModC} (h : parseC s = (.nil, ms)) : (∀ m ∈ ms, GoodM m) ∧ ms.length ≤ 8 ∧ (ms.map (·.name)).Nodup ∧ wholeC 0 [] ms = .nil := by
  unfold parseC at h
  split at h
  · cases h
  · cases hp : parseL 0 ⟨[], []⟩ (linesL s.data.toList) with
    | error e => rw [hp] at h; cases h
    | ok st =>
      rw [hp] at h
      simp only at h
      have hg := parseL_keep _ 0 ⟨[], []⟩ st ⟨(fun m hm => by cases hm), (by simp), List.nodup_nil⟩ (linesL_clean _) hp
      cases hw : wholeC 0 [] st.ms with
      | nil =>
        rw [hw] at h
        injection h with _ h
        subst h
        refine ⟨fun m hm => ?_, hg.most, hg.once, hw⟩
        have w := hg.ms m hm
        have hr := wholeC_root _ _ _ hw m hm
        have hck : checkB m.root = none := w.root.resolve_left hr
        exact ⟨w.name, hck, path_clean hck, w.sl, w.qu, w.us, w.most, w.once⟩
      | _ => rw [hw] at h; cases h
/-- What is read is written as a text that is read as it. -/
theorem parse_text {s : ByteArray} {ms : List ModC} (h : parseC s = (.nil, ms)) (hl : (textC ms).length ≤ 8192) : parseC (bA (textC ms)) = (.nil, ms) := by
  obtain ⟨hg, h8, hn, hw⟩ := parse_good h
  obtain ⟨s', hs⟩ := text_parse ms [] [] 0 hg (by simpa using h8) (by simpa using hn)
  unfold parseC
  rw [if_neg (by show ¬ 8192 < (textC ms).toArray.size; rw [List.size_toArray]; omega), bA_list, hs]
  simp only [List.nil_append]
  rw [hw]
end Go.Proofs.YtddnfooachibiaaGreatDoor
