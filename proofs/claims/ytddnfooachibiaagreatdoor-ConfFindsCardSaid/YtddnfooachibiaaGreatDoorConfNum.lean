/-
  conf: numbers, in plain Lean: what strconv.Atoi and strconv.Itoa say together is the reference's number.
-/
import Derived.Test.YtddnfooachibiaaGreatDoorPathPlain2
import Derived.Lib.AtoiAll
import Derived.Lib.ItoaNum
set_option linter.unusedVariables false
set_option linter.unusedSimpArgs false
namespace Go.Proofs.YtddnfooachibiaaGreatDoor
def digU (c : UInt8) : Bool := decide (48 ≤ c.toNat) && decide (c.toNat ≤ 57)
theorem digU_in {c : UInt8} (h : digU c = true) : 48 ≤ c.toNat ∧ c.toNat ≤ 57 := by
  simpa [digU] using h
def digV (a : Nat) (l : List UInt8) : Nat := l.foldl (fun a c => a * 10 + (c.toNat - 48)) a
theorem digV_snoc (a : Nat) (l : List UInt8) (c : UInt8) : digV a (l ++ [c]) = digV a l * 10 + (c.toNat - 48) := by simp [digV]
/-- The number of a text, or -1: without noughts ahead, at most six digits. -/
def numB (s : ByteArray) : Int :=
  if s.data.toList = [] ∨ 6 < s.data.toList.length ∨ (s.data.toList.head? = some 48 ∧ 1 < s.data.toList.length) ∨ s.data.toList.all digU = false then -1 else (digV 0 s.data.toList : Int)
theorem ofNat_dig {d : Nat} (h : d < 10) : (UInt8.ofNat (48 + d)).toNat = 48 + d := by
  rw [UInt8.toNat_ofNat']
  omega
theorem dec_all : ∀ u : Nat, (Go.Lib.decDigits u).all digU = true := fun u => by
  induction u using Nat.strongRecOn with
  | _ u ih =>
    rw [Go.Lib.decDigits]
    split
    · rename_i h
      simp only [List.all_cons, List.all_nil, Bool.and_true, digU, ofNat_dig h]
      simp; omega
    · rename_i h
      rw [List.all_append, ih (u / 10) (by omega)]
      simp only [List.all_cons, List.all_nil, Bool.and_true, Bool.true_and, digU, ofNat_dig (show u % 10 < 10 by omega)]
      simp; omega
theorem dec_val : ∀ u : Nat, digV 0 (Go.Lib.decDigits u) = u := fun u => by
  induction u using Nat.strongRecOn with
  | _ u ih =>
    rw [Go.Lib.decDigits]
    split
    · rename_i h
      simp only [digV, List.foldl_cons, List.foldl_nil, ofNat_dig h]
      omega
    · rename_i h
      rw [digV_snoc, ih (u / 10) (by omega), ofNat_dig (show u % 10 < 10 by omega)]
      omega
theorem dec_some (u : Nat) : Go.Lib.decDigits u ≠ [] := by
  rw [Go.Lib.decDigits]
  split <;> simp
theorem dec_head : ∀ u : Nat, 1 ≤ u → (Go.Lib.decDigits u).head? ≠ some 48 := fun u => by
  induction u using Nat.strongRecOn with
  | _ u ih =>
    intro h1
    rw [Go.Lib.decDigits]
    split
    · rename_i h
      simp only [List.head?_cons]
      intro e
      have e2 : (UInt8.ofNat (48 + u)).toNat = 48 := by
        have := Option.some.inj e
        rw [this]; rfl
      rw [ofNat_dig h] at e2
      omega
    · rename_i h
      have h2 := ih (u / 10) (by omega) (by omega)
      have h3 := dec_some (u / 10)
      rw [List.head?_append]
      cases hd : (Go.Lib.decDigits (u / 10)).head? with
      | none => rw [List.head?_eq_none_iff] at hd; exact absurd hd h3
      | some c => rw [hd] at h2; simpa using h2
theorem dec_len : ∀ (k u : Nat), u < 10 ^ (k + 1) → (Go.Lib.decDigits u).length ≤ k + 1
  | 0, u, h => by
    rw [Go.Lib.decDigits, dif_pos (by simpa using h)]
    simp
  | k + 1, u, h => by
    rw [Go.Lib.decDigits]
    split
    · simp
    · have := dec_len k (u / 10) (by rw [Nat.pow_succ] at h; omega)
      simp only [List.length_append, List.length_singleton]
      omega
theorem digV_pos : ∀ (l : List UInt8) (a : Nat), 1 ≤ a → 1 ≤ digV a l
  | [], a, h => h
  | c :: r, a, h => digV_pos r (a * 10 + (c.toNat - 48)) (by omega)
theorem dec_back : ∀ (n : Nat) (l : List UInt8), l.length = n + 1 → l.all digU = true → (l.head? ≠ some 48 ∨ l.length = 1) → Go.Lib.decDigits (digV 0 l) = l
  | 0, l, hl, ha, _ => by
    match l, hl with
    | [c], _ =>
      have hc : digU c = true := by simpa using ha
      have h1 := digU_in hc
      have e : digV 0 [c] = c.toNat - 48 := by simp [digV]
      rw [e, Go.Lib.decDigits, dif_pos (by omega)]
      have : 48 + (c.toNat - 48) = c.toNat := by omega
      rw [this]
      simp
  | n + 1, l, hl, ha, hh => by
    have hne : l ≠ [] := by intro e; rw [e] at hl; simp at hl
    obtain ⟨r, c, rfl⟩ : ∃ r c, l = r ++ [c] := ⟨l.dropLast, l.getLast hne, (List.dropLast_concat_getLast hne).symm⟩
    have hrl : r.length = n + 1 := by simpa using hl
    rw [List.all_append, Bool.and_eq_true] at ha
    have hc : digU c = true := by simpa using ha.2
    have h1 := digU_in hc
    have hrn : r ≠ [] := by intro e; rw [e] at hrl; simp at hrl
    have hhr : r.head? ≠ some 48 := by
      rcases hh with hh | hh
      · rw [List.head?_append] at hh
        cases hd : r.head? with
        | none => rw [List.head?_eq_none_iff] at hd; exact absurd hd hrn
        | some x => rw [hd] at hh; simpa using hh
      · rw [List.length_append, hrl] at hh; simp at hh
    have ih := dec_back n r hrl ha.1 (.inl hhr)
    have hp : 1 ≤ digV 0 r := by
      match r, hrn, hhr, ha.1 with
      | x :: t, _, hx, hax =>
        have hdx : digU x = true := by
          rw [List.all_cons, Bool.and_eq_true] at hax
          exact hax.1
        have h2 := digU_in hdx
        have h3 : x.toNat ≠ 48 := fun e => hx (by
          rw [List.head?_cons]
          congr 1
          exact UInt8.toNat_inj.1 e)
        show 1 ≤ digV (0 * 10 + (x.toNat - 48)) t
        exact digV_pos t _ (by omega)
    rw [digV_snoc, Go.Lib.decDigits, dif_neg (by omega)]
    have e1 : (digV 0 r * 10 + (c.toNat - 48)) / 10 = digV 0 r := by omega
    have e2 : (digV 0 r * 10 + (c.toNat - 48)) % 10 = c.toNat - 48 := by omega
    rw [e1, e2, ih]
    have : 48 + (c.toNat - 48) = c.toNat := by omega
    rw [this]
    simp
theorem parse_dig : ∀ (l : List UInt8) (a : Nat), l.all digU = true → (a + 1) * 10 ^ l.length ≤ 1000000000000000000 → Go.Lib.parseUint10 a l = .ok (digV a l)
  | [], a, _, _ => rfl
  | c :: r, a, ha, hb => by
    rw [List.all_cons, Bool.and_eq_true] at ha
    have h1 := digU_in ha.1
    have h2 : (a * 10 + (c.toNat - 48) + 1) * 10 ^ r.length ≤ 1000000000000000000 := by
      refine Nat.le_trans ?_ hb
      rw [List.length_cons, Nat.pow_succ, Nat.mul_comm (10 ^ r.length) 10, ← Nat.mul_assoc]
      exact Nat.mul_le_mul_right _ (by omega)
    have h3 : a * 10 + (c.toNat - 48) + 1 ≤ 1000000000000000000 := Nat.le_trans (Nat.le_mul_of_pos_right _ (Nat.pow_pos (by omega))) h2
    rw [Go.Lib.parseUint10, if_pos h1, if_neg (by omega), if_neg (by omega)]
    exact parse_dig r _ ha.2 h2
theorem atoi_dig {l : List UInt8} (h0 : l ≠ []) (ha : l.all digU = true) (h6 : l.length ≤ 6) : Go.Lib.atoiAll l = .ok (digV 0 l : Int) := by
  match l, h0, ha, h6 with
  | c :: r, _, ha, h6 =>
    have hc : digU c = true := by
      rw [List.all_cons, Bool.and_eq_true] at ha
      exact ha.1
    have h1 := digU_in hc
    have hb : (0 + 1) * 10 ^ (c :: r).length ≤ 1000000000000000000 := by
      rw [Nat.one_mul]
      exact Nat.le_trans (Nat.pow_le_pow_right (by omega) h6) (by decide)
    have hp := parse_dig (c :: r) 0 ha hb
    have hv : digV 0 (c :: r) < 1000000000000000000 + 1 := by
      have := Go.Lib.parseUint10_lt
      have hq : ∀ (l : List UInt8) (a : Nat), (a + 1) * 10 ^ l.length ≤ 1000000000000000000 → l.all digU = true → digV a l + 1 ≤ 1000000000000000000 := by
        intro l
        induction l with
        | nil => intro a h _; simpa [digV] using h
        | cons c r ih =>
          intro a h hal
          rw [List.all_cons, Bool.and_eq_true] at hal
          have h1 := digU_in hal.1
          refine ih (a * 10 + (c.toNat - 48)) ?_ hal.2
          refine Nat.le_trans ?_ h
          rw [List.length_cons, Nat.pow_succ, Nat.mul_comm (10 ^ r.length) 10, ← Nat.mul_assoc]
          exact Nat.mul_le_mul_right _ (by omega)
      have := hq (c :: r) 0 hb ha
      omega
    unfold Go.Lib.atoiAll
    simp only
    rw [if_neg (by omega), Go.Lib.parseMag, if_neg (by simp), hp]
    simp only
    rw [if_neg (by omega), if_neg (by omega), if_neg (by omega)]
/-- Is it a number from one to another, as Atoi and Itoa tell it? -/
theorem number_law (s : ByteArray) (lo hi : Int) (h0 : 0 ≤ lo) (h1 : hi ≤ 262144) :
    (∀ n, Go.Lib.atoiAll s.data.toList = .ok n → Go.Lib.itoa n = s.data.toList → lo ≤ n → n ≤ hi → numB s = n) ∧
    (lo ≤ numB s → numB s ≤ hi → Go.Lib.atoiAll s.data.toList = .ok (numB s) ∧ Go.Lib.itoa (numB s) = s.data.toList) := by
  refine ⟨fun n hn hs hlo hhi => ?_, fun hlo hhi => ?_⟩
  · obtain ⟨u, rfl⟩ : ∃ u : Nat, n = (u : Int) := ⟨n.toNat, by omega⟩
    have hs2 : Go.Lib.decDigits u = s.data.toList := by
      rw [← hs, Go.Lib.itoa, if_neg (by omega)]
      simp
    have hu : u < 10 ^ 6 := by have : (10 : Nat) ^ 6 = 1000000 := by decide
                               omega
    have hlen := dec_len 5 u hu
    unfold numB
    rw [← hs2, if_neg]
    · rw [dec_val]
    · rintro (h | h | ⟨h, h2⟩ | h)
      · exact dec_some u h
      · omega
      · by_cases h3 : 1 ≤ u
        · exact dec_head u h3 h
        · have : u = 0 := by omega
          subst this
          rw [Go.Lib.decDigits, dif_pos (by omega)] at h2
          simp at h2
      · rw [dec_all] at h; cases h
  · unfold numB at hlo hhi ⊢
    split at hlo
    · omega
    · rename_i hc
      rw [if_neg hc] at hhi ⊢
      have g1 : s.data.toList ≠ [] := fun h => hc (.inl h)
      have g2 : s.data.toList.length ≤ 6 := by
        by_cases h : 6 < s.data.toList.length
        · exact absurd (.inr (.inl h)) hc
        · omega
      have g3 : s.data.toList.all digU = true := by
        cases h : s.data.toList.all digU with
        | true => rfl
        | false => exact absurd (.inr (.inr (.inr h))) hc
      have g4 : s.data.toList.head? ≠ some 48 ∨ s.data.toList.length = 1 := by
        by_cases h : s.data.toList.head? = some 48
        · right
          by_cases h2 : 1 < s.data.toList.length
          · exact absurd (.inr (.inr (.inl ⟨h, h2⟩))) hc
          · have : s.data.toList.length ≠ 0 := fun e => g1 (List.length_eq_zero_iff.1 e)
            omega
        · exact .inl h
      refine ⟨atoi_dig g1 g3 g2, ?_⟩
      rw [Go.Lib.itoa, if_neg (by omega)]
      have hl : s.data.toList.length = (s.data.toList.length - 1) + 1 := by
        have : s.data.toList.length ≠ 0 := fun e => g1 (List.length_eq_zero_iff.1 e)
        omega
      have := dec_back (s.data.toList.length - 1) s.data.toList hl g3 g4
      simpa using this
end Go.Proofs.YtddnfooachibiaaGreatDoor
