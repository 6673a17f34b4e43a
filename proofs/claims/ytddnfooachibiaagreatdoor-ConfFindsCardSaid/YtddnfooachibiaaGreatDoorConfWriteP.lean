/-
  conf: modules as a text, and read again: in plain Lean.
-/
import Derived.Test.YtddnfooachibiaaGreatDoorConfLaws
set_option linter.unusedVariables false
set_option linter.unusedSimpArgs false
namespace Go.Proofs.YtddnfooachibiaaGreatDoor
open Go
def usrT (u : ByteArray × ByteArray) : List UInt8 := [117, 115, 101, 114, 32, 61, 32] ++ u.1.data.toList ++ [58] ++ u.2.data.toList ++ [10]
def modT (m : ModC) : List UInt8 := [91] ++ m.name.data.toList ++ [93, 10, 114, 111, 111, 116, 32, 61, 32] ++ m.root.data.toList ++ [10, 119, 114, 105, 116, 101, 32, 61, 32] ++ (if m.wr then [121, 101, 115] else [110, 111]) ++
  [10, 115, 108, 111, 116, 115, 32, 61, 32] ++ Lib.itoa m.sl ++ [10, 113, 117, 111, 116, 97, 32, 61, 32] ++ Lib.itoa m.qu ++ [10] ++ m.us.flatMap usrT
def textC (ms : List ModC) : List UInt8 := ms.flatMap modT
structure GoodU (u : ByteArray × ByteArray) : Prop where
  name : nameC u.1 = true
  full : u.2.data.toList ≠ []
  len : u.2.data.toList.length ≤ 16
  line : (10 : UInt8) ∉ u.2.data.toList
  last : u.2.data.toList.getLast? ≠ some 32
structure GoodM (m : ModC) : Prop where
  name : nameC m.name = true
  root : checkB m.root = none
  clean : (32 : UInt8) ∉ m.root.data.toList ∧ (10 : UInt8) ∉ m.root.data.toList
  sl : 1 ≤ m.sl ∧ m.sl ≤ 16
  qu : 0 ≤ m.qu ∧ m.qu ≤ 262144
  us : ∀ u ∈ m.us, GoodU u
  most : m.us.length ≤ 8
  once : (m.us.map (·.1)).Nodup
theorem numB_dec {u : Nat} (hu : u < 1000000) : numB (bA (Lib.decDigits u)) = u := by
  have hlen := dec_len 5 u hu
  unfold numB
  rw [bA_list, if_neg]
  · rw [dec_val]
  · rintro (h | h | ⟨h, h2⟩ | h)
    · exact dec_some u h
    · omega
    · by_cases h3 : 1 ≤ u
      · exact dec_head u h3 h
      · have : u = 0 := by omega
        subst this
        rw [Lib.decDigits, dif_pos (by omega)] at h2
        simp at h2
    · rw [dec_all] at h; cases h
theorem numB_itoa {n : Int} (h0 : 0 ≤ n) (h1 : n < 1000000) : numB (bA (Lib.itoa n)) = n := by
  rw [Lib.itoa, if_neg (by omega), numB_dec (by omega)]
  omega
theorem itoa_clean {n : Int} (h0 : 0 ≤ n) {c : UInt8} (hc : digU c = false) : c ∉ Lib.itoa n := fun h => by
  rw [Lib.itoa, if_neg (by omega)] at h
  have := List.all_eq_true.1 (dec_all n.toNat) c h
  rw [hc] at this
  cases this
theorem name_in {s : ByteArray} (h : nameC s = true) : s.data.toList ≠ [] ∧ s.data.toList.length ≤ 16 ∧ ∀ c ∈ s.data.toList, alnumU c = true := by
  unfold nameC at h
  simp only [Bool.and_eq_true, Bool.not_eq_true', List.isEmpty_eq_false_iff, decide_eq_true_eq, List.all_eq_true] at h
  exact ⟨h.1.1, h.1.2, h.2⟩
theorem name_clean {s : ByteArray} (h : nameC s = true) {c : UInt8} (hc : alnumU c = false) : c ∉ s.data.toList := fun hm => by
  have := (name_in h).2.2 c hm
  rw [hc] at this
  cases this
theorem trimB_self {l : List UInt8} (h1 : l.head? ≠ some 32) (h2 : l.getLast? ≠ some 32) : Lib.trimB l 32 = l := by
  have hr : Lib.trimRightB l 32 = l := by
    by_cases h : l = []
    · subst h; rfl
    · obtain ⟨r, c, rfl⟩ : ∃ r c, l = r ++ [c] := ⟨l.dropLast, l.getLast h, (List.dropLast_concat_getLast h).symm⟩
      have hc : c ≠ 32 := fun e => h2 (by rw [e]; simp)
      simp [Lib.trimRightB, List.dropWhile_cons, hc]
  unfold Lib.trimB
  rw [hr]
  cases l with
  | nil => rfl
  | cons a r =>
    have ha : a ≠ 32 := fun e => h1 (by rw [e]; rfl)
    simp [Lib.trimLeftB, List.dropWhile_cons, ha]
theorem open_line (st : StC) {n : ByteArray} (hn : nameC n = true) (hf : findC st.ms n = none) (h8 : st.ms.length < 8) : lineC st ([91] ++ n.data.toList ++ [93]) = .ok ⟨st.ms ++ [newMod n], []⟩ := by
  have hd : ([91] ++ n.data.toList ++ [93] : List UInt8).drop 1 = n.data.toList ++ [93] := by simp
  have hs : Lib.hasSuffix (n.data.toList ++ [93]) [93] = true := by
    unfold Lib.hasSuffix
    rw [List.isSuffixOf_iff_suffix]
    exact List.suffix_append _ _
  have ht : Lib.trimSuffix (n.data.toList ++ [93]) [93] = n.data.toList := by
    unfold Lib.trimSuffix
    rw [if_pos hs]
    simp
  unfold lineC
  rw [trimB_self (by simp) (by rw [List.getLast?_append]; simp)]
  unfold lineT
  rw [if_neg (by simp), if_pos (by simp)]
  unfold openC
  rw [hd, hs, ht, bA_self, if_neg (by decide), hn, if_neg (by decide), hf, if_neg (by decide), if_neg (by omega)]
theorem user_line (st : StC) (m : ModC) {u : ByteArray × ByteArray} (hu : GoodU u) (hm : st.ms.getLast? = some m) (h8 : m.us.length < 8) (hf : u.1 ∉ m.us.map (·.1)) :
    lineC st ([117, 115, 101, 114] ++ 32 :: 61 :: 32 :: (u.1.data.toList ++ 58 :: u.2.data.toList)) = .ok ⟨st.ms.dropLast ++ [{ m with us := m.us ++ [u] }], st.seen⟩ := by
  obtain ⟨g1, g2, g3⟩ := name_in hu.name
  rw [key_line st m (k := [117, 115, 101, 114]) (by simp) (by decide) (by decide) (by decide) (by decide) ⟨by
    rw [List.head?_append]
    cases hd : u.1.data.toList.head? with
    | none => rw [List.head?_eq_none_iff] at hd; exact absurd hd g1
    | some c =>
      intro e
      have : c = 32 := by simpa using e
      have := g3 c (List.mem_of_head? hd)
      subst c
      exact absurd this (by decide), by
    rw [List.getLast?_append]
    rw [List.getLast?_cons]
    cases hd : u.2.data.toList.getLast? with
    | none => rw [List.getLast?_eq_none_iff] at hd; exact absurd hd hu.full
    | some c =>
      intro e
      have : c = 32 := by simpa using e
      exact hu.last (by rw [hd, this])⟩ hm]
  have hc : Lib.cut (bA (u.1.data.toList ++ 58 :: u.2.data.toList)).data.toList [58] = (u.1.data.toList, u.2.data.toList, true) := cut_at (name_clean hu.name (by decide))
  have hset : setC m st.seen (bA [117, 115, 101, 114]) (bA (u.1.data.toList ++ 58 :: u.2.data.toList)) = .ok ({ m with us := m.us ++ [u] }, st.seen) := by
    unfold setC
    rw [if_pos (by rfl)]
    have hsec : secretC m.us u.1 = none := by
      unfold secretC
      rw [Option.map_eq_none_iff, List.find?_eq_none]
      intro x hx
      simp only [decide_eq_true_eq]
      intro e
      exact hf (List.mem_map.2 ⟨x, hx, e⟩)
    have hl := hu.len
    have hn : nameC (bA u.1.data.toList) = true := hu.name
    have hs2 : secretC m.us (bA u.1.data.toList) = none := hsec
    have huser : userC m (bA (u.1.data.toList ++ 58 :: u.2.data.toList)) = .ok { m with us := m.us ++ [u] } := by
      unfold userC
      rw [hc]
      show (if (true = false ∨ u.2.data.toList = [] ∨ 16 < u.2.data.toList.length) then (Except.error 130 : Except Int ModC) else if nameC (bA u.1.data.toList) = false then .error 131 else if (secretC m.us (bA u.1.data.toList)).isSome then .error 5 else if 8 ≤ m.us.length then .error 3 else .ok { m with us := m.us ++ [(bA u.1.data.toList, bA u.2.data.toList)] }) = _
      rw [if_neg (by rintro (h | h | h); · cases h
                     · exact hu.full h
                     · omega), hn, if_neg (by decide), hs2, if_neg (by decide), if_neg (by omega)]
      rfl
    rw [huser]
    rfl
  rw [hset]
  rfl
theorem last_one (pre : List ModC) (m : ModC) : (pre ++ [m]).getLast? = some m := by simp
theorem drop_one (pre : List ModC) (m : ModC) : (pre ++ [m]).dropLast = pre := by simp
theorem users_parse (pre : List ModC) (seen : List ByteArray) (t : List UInt8) : ∀ (us : List (ByteArray × ByteArray)) (m : ModC) (i : Nat), (∀ u ∈ us, GoodU u) → m.us.length + us.length ≤ 8 → ((m.us ++ us).map (·.1)).Nodup →
    parseL i ⟨pre ++ [m], seen⟩ (linesL (us.flatMap usrT ++ t)) = parseL (i + us.length) ⟨pre ++ [{ m with us := m.us ++ us }], seen⟩ (linesL t)
  | [], m, i, _, _, _ => by simp
  | u :: r, m, i, hg, h8, hn => by
    have hu := hg u List.mem_cons_self
    have e : (u :: r).flatMap usrT ++ t = ([117, 115, 101, 114] ++ 32 :: 61 :: 32 :: (u.1.data.toList ++ 58 :: u.2.data.toList)) ++ 10 :: (r.flatMap usrT ++ t) := by
      simp [usrT]
    have h10 : (10 : UInt8) ∉ ([117, 115, 101, 114] ++ 32 :: 61 :: 32 :: (u.1.data.toList ++ 58 :: u.2.data.toList) : List UInt8) := by
      intro h
      simp only [List.mem_append, List.mem_cons, List.not_mem_nil, or_false] at h
      rcases h with (h | h | h | h) | h | h | h | h | h | h
      · cases h
      · cases h
      · cases h
      · cases h
      · cases h
      · cases h
      · cases h
      · exact name_clean hu.name (by decide) h
      · cases h
      · exact hu.line h
    have hf : u.1 ∉ m.us.map (·.1) := fun h => by
      rw [List.map_append, List.nodup_append] at hn
      exact hn.2.2 u.1 h u.1 (by simp) rfl
    rw [e, linesL_cons _ _ h10, parseL, user_line ⟨pre ++ [m], seen⟩ m hu (last_one pre m) (by simp at h8; omega) hf]
    simp only [drop_one]
    rw [users_parse pre seen t r { m with us := m.us ++ [u] } (i + 1) (fun x hx => hg x (List.mem_cons_of_mem _ hx)) (by simp at h8 ⊢; omega) (by simpa using hn)]
    simp only [List.append_assoc, List.singleton_append, List.length_cons]
    congr 1
    omega
theorem put_line (pre : List ModC) (seen : List ByteArray) (m m' : ModC) {k t : List UInt8} (hk : k ≠ []) (hk2 : (32 : UInt8) ∉ k) (hk3 : (61 : UInt8) ∉ k) (hk4 : k.head? ≠ some 35) (hk5 : k.head? ≠ some 91) (hku : bA k ≠ kUser) (hks : hasC seen (bA k) = false)
    (ht : (32 : UInt8) ∉ t) (hp : putC m (bA k) (bA t) = .ok m') : lineC ⟨pre ++ [m], seen⟩ (k ++ 32 :: 61 :: 32 :: t) = .ok ⟨pre ++ [m'], seen ++ [bA k]⟩ := by
  rw [key_line ⟨pre ++ [m], seen⟩ m hk hk2 hk3 hk4 hk5 (ends_no ht) (last_one pre m)]
  unfold setC
  rw [if_neg hku]
  simp only [hks, Bool.false_eq_true, if_false, hp, drop_one]
  rfl
theorem mod_parse (pre : List ModC) (seen : List ByteArray) (t : List UInt8) (m : ModC) (i : Nat) (hg : GoodM m) (h8 : pre.length < 8) (hf : findC pre m.name = none) :
    parseL i ⟨pre, seen⟩ (linesL (modT m ++ t)) = parseL (i + 5 + m.us.length) ⟨pre ++ [m], [kRoot, kWrite, kSlots, kQuota]⟩ (linesL t) := by
  obtain ⟨n, rt, wr, sl, qu, us⟩ := m
  obtain ⟨g1, g2, ⟨g3, g4⟩, ⟨g5, g6⟩, ⟨g7, g8⟩, g9, g10, g11⟩ := hg
  simp only at g1 g2 g3 g4 g5 g6 g7 g8 g9 g10 g11 hf ⊢
  have e : modT ⟨n, rt, wr, sl, qu, us⟩ ++ t = ([91] ++ n.data.toList ++ [93]) ++ 10 :: (([114, 111, 111, 116] ++ 32 :: 61 :: 32 :: rt.data.toList) ++ 10 :: (([119, 114, 105, 116, 101] ++ 32 :: 61 :: 32 :: (if wr then [121, 101, 115] else [110, 111])) ++ 10 :: (([115, 108, 111, 116, 115] ++ 32 :: 61 :: 32 :: Lib.itoa sl) ++ 10 :: (([113, 117, 111, 116, 97] ++ 32 :: 61 :: 32 :: Lib.itoa qu) ++ 10 :: (us.flatMap usrT ++ t))))) := by
    simp [modT]
  have no : ∀ (k x : List UInt8), (10 : UInt8) ∉ k → (10 : UInt8) ∉ x → (10 : UInt8) ∉ k ++ 32 :: 61 :: 32 :: x := fun k x h1 h2 h => by
    rcases List.mem_append.1 h with h | h
    · exact h1 h
    · simp only [List.mem_cons] at h
      rcases h with h | h | h | h
      · cases h
      · cases h
      · cases h
      · exact h2 h
  have n0 : (10 : UInt8) ∉ ([91] ++ n.data.toList ++ [93] : List UInt8) := fun h => by
    simp only [List.mem_append, List.mem_cons, List.not_mem_nil, or_false] at h
    rcases h with (h | h) | h
    · cases h
    · exact name_clean g1 (by decide) h
    · cases h
  have hw10 : (10 : UInt8) ∉ (if wr then [121, 101, 115] else [110, 111] : List UInt8) := by cases wr <;> decide
  have hw32 : (32 : UInt8) ∉ (if wr then [121, 101, 115] else [110, 111] : List UInt8) := by cases wr <;> decide
  have p1 := put_line pre [] (newMod n) ⟨n, rt, false, 16, 262144, []⟩ (k := [114, 111, 111, 116]) (t := rt.data.toList) (by simp) (by decide) (by decide) (by decide) (by decide) (by decide) (by decide) g3 (by
    unfold putC
    rw [if_pos (by rfl), bA_self, g2]
    rfl)
  have p2 := put_line pre ([] ++ [bA [114, 111, 111, 116]]) ⟨n, rt, false, 16, 262144, []⟩ ⟨n, rt, wr, 16, 262144, []⟩ (k := [119, 114, 105, 116, 101]) (t := if wr then [121, 101, 115] else [110, 111]) (by simp) (by decide) (by decide) (by decide) (by decide) (by decide) (by decide) hw32 (by
    unfold putC
    rw [if_neg (by decide), if_pos (by rfl)]
    cases wr with
    | true => rw [if_pos (.inl rfl)]
    | false => rw [if_neg (by decide), if_pos (.inl rfl)])
  have p3 := put_line pre ([] ++ [bA [114, 111, 111, 116]] ++ [bA [119, 114, 105, 116, 101]]) ⟨n, rt, wr, 16, 262144, []⟩ ⟨n, rt, wr, sl, 262144, []⟩ (k := [115, 108, 111, 116, 115]) (t := Lib.itoa sl) (by simp) (by decide) (by decide) (by decide) (by decide) (by decide) (by decide) (itoa_clean (by omega) (by decide)) (by
    unfold putC
    rw [if_neg (by decide), if_neg (by decide), if_pos (by rfl), numB_itoa (by omega) (by omega), if_pos ⟨g5, g6⟩])
  have p4 := put_line pre ([] ++ [bA [114, 111, 111, 116]] ++ [bA [119, 114, 105, 116, 101]] ++ [bA [115, 108, 111, 116, 115]]) ⟨n, rt, wr, sl, 262144, []⟩ ⟨n, rt, wr, sl, qu, []⟩ (k := [113, 117, 111, 116, 97]) (t := Lib.itoa qu) (by simp) (by decide) (by decide) (by decide) (by decide) (by decide) (by decide) (itoa_clean (by omega) (by decide)) (by
    unfold putC
    rw [if_neg (by decide), if_neg (by decide), if_neg (by decide), if_pos (by rfl), numB_itoa (by omega) (by omega), if_pos ⟨g7, g8⟩])
  rw [e, linesL_cons _ _ n0, parseL, open_line ⟨pre, seen⟩ g1 hf h8]
  simp only
  rw [linesL_cons _ _ (no _ _ (by decide) g4), parseL, p1]
  simp only
  rw [linesL_cons _ _ (no _ _ (by decide) hw10), parseL, p2]
  simp only
  rw [linesL_cons _ _ (no _ _ (by decide) (itoa_clean (by omega) (by decide))), parseL, p3]
  simp only
  rw [linesL_cons _ _ (no _ _ (by decide) (itoa_clean (by omega) (by decide))), parseL, p4]
  simp only
  rw [users_parse pre _ t us ⟨n, rt, wr, sl, qu, []⟩ _ g9 (by simpa using g10) (by simpa using g11)]
  simp only [List.nil_append]
  rfl
theorem text_parse : ∀ (ms pre : List ModC) (seen : List ByteArray) (i : Nat), (∀ m ∈ ms, GoodM m) → pre.length + ms.length ≤ 8 → ((pre ++ ms).map (·.name)).Nodup → ∃ seen', parseL i ⟨pre, seen⟩ (linesL (textC ms)) = .ok ⟨pre ++ ms, seen'⟩
  | [], pre, seen, i, _, _, _ => ⟨seen, by
    rw [List.append_nil]
    rfl⟩
  | m :: r, pre, seen, i, hg, h8, hn => by
    have hf : findC pre m.name = none := by
      unfold findC
      rw [List.find?_eq_none]
      intro x hx
      simp only [decide_eq_true_eq]
      intro e
      rw [List.map_append, List.nodup_append] at hn
      exact hn.2.2 x.name (List.mem_map.2 ⟨x, hx, rfl⟩) m.name (by simp) e
    have e : textC (m :: r) = modT m ++ textC r := rfl
    rw [e, mod_parse pre seen _ m i (hg m List.mem_cons_self) (by simp at h8; omega) hf]
    obtain ⟨s', hs⟩ := text_parse r (pre ++ [m]) [kRoot, kWrite, kSlots, kQuota] (i + 5 + m.us.length) (fun x hx => hg x (List.mem_cons_of_mem _ hx)) (by simp at h8 ⊢; omega) (by simpa using hn)
    exact ⟨s', by rw [hs, List.append_assoc]; rfl⟩
end Go.Proofs.YtddnfooachibiaaGreatDoor
