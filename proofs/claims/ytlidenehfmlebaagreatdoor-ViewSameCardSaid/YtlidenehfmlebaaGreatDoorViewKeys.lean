/-
  Sorted keys of a map of ints.
-/
import Derived.Test.YtlidenehfmlebaaGreatDoorViewAt
set_option linter.unusedVariables false
set_option linter.unusedSimpArgs false
namespace Go.Proofs.YtlidenehfmlebaaGreatDoor
open Go.RowKit Go.Maps Go.WideMaps Go.WideAt
/-- Whole numbers in their order, each once, that are those of a list. -/
structure SortedOf (K : List Int) (L : List Int) : Prop where
  rising : K.Pairwise (· < ·)
  mem : ∀ v, v ∈ K ↔ v ∈ L
theorem sort_rising {ss : List Int} (hn : ss.Nodup) : (ss.mergeSort fun x y => decide (x ≤ y)).Pairwise (· < ·) := by
  have tr : ∀ a b c : Int, decide (a ≤ b) = true → decide (b ≤ c) = true → decide (a ≤ c) = true := fun a b c h1 h2 => by simp only [decide_eq_true_eq] at *; omega
  have tot : ∀ a b : Int, (decide (a ≤ b) || decide (b ≤ a)) = true := fun a b => by simp only [Bool.or_eq_true, decide_eq_true_eq]; omega
  have h1 := List.pairwise_mergeSort (le := fun x y : Int => decide (x ≤ y)) tr tot ss
  have h2 : (ss.mergeSort fun x y => decide (x ≤ y)).Nodup := (List.mergeSort_perm ss _).nodup_iff.2 hn
  unfold List.Nodup at h2
  exact (h1.and h2).imp (fun {a b} h => by
    have := h.1
    simp only [decide_eq_true_eq] at this
    have := h.2
    omega)
theorem ints_keys {w : World} {b n : Nat} {D : DataW Value} (h : w.ownsMap Tryz.prog 3 valR b n D) : (intKeys D).Nodup ∧ (∀ v : Int, v ∈ intKeys D ↔ Maps.has D (keyI v) = true) ∧ Maps.size D ≤ n := by
  have hk := Tryz.underlying3
  have h' := h
  obtain ⟨es, hD, hp, _⟩ := h.entries intKeyed
  obtain ⟨es0, clock, hb, Ft, hs, hD0⟩ := h'
  have hkey : ∀ p ∈ es, ∃ x, p.1 = .int .i64 x := fun p hpm => by
    rw [hD] at hD0
    injection hD0 with hD0
    rw [hD0, mem_sorted] at hpm
    obtain ⟨x, hx, rfl⟩ := List.mem_map.1 hpm
    obtain ⟨y, hy⟩ := Ft.reads x hx
    obtain ⟨z, _, e, _⟩ := Maps.keyOf_i64 hk (WideElems.rd_key hy)
    exact ⟨z, by rw [WideElems.rg_of hy]; exact e⟩
  have hsz : Maps.size D ≤ n := by
    rw [hD0]
    show ((es0.toList.map (WideElems.rg Tryz.prog 3 valR)).foldr DataW.insert []).length ≤ n
    rw [length_sorted]
    simpa using hs
  subst hD
  have hmem : ∀ v : Int, v ∈ intKeys (DataW.map es) ↔ Maps.has (DataW.map es) (keyI v) = true := fun v => by
    show v ∈ (es.map fun p => Go.intOf p.1) ↔ es.any (fun p => p.1.sameKey (keyI v)) = true
    rw [List.mem_map, List.any_eq_true]
    constructor
    · rintro ⟨p, hpm, rfl⟩
      obtain ⟨x, hx⟩ := hkey p hpm
      exact ⟨p, hpm, by rw [hx]; show (keyI x).sameKey (keyI x) = true; rw [keyI_same]; simp⟩
    · rintro ⟨p, hpm, e⟩
      obtain ⟨x, hx⟩ := hkey p hpm
      refine ⟨p, hpm, ?_⟩
      rw [hx] at e ⊢
      change (keyI x).sameKey (keyI v) = true at e
      rw [keyI_same, decide_eq_true_eq] at e
      exact e
  refine ⟨?_, hmem, hsz⟩
  show (es.map fun p => Go.intOf p.1).Nodup
  unfold List.Nodup
  rw [List.pairwise_map]
  exact hp.imp_of_mem (fun {p q} hpm hqm hne e => hne (by
    obtain ⟨x, hx⟩ := hkey p hpm
    obtain ⟨y, hy⟩ := hkey q hqm
    rw [hx, hy] at e ⊢
    exact congrArg _ e))
/-- slices.Sorted(maps.Keys(m)) at a map of ints. -/
theorem sorted_ints (pm n : Nat) (m : Lit → Option Value) (w : World) (hn : n ≤ 100000) (hm : MapAs w Tryz.prog 3 pm n m) :
    Calls Tryz.prog 35 #[.func (.func 60) #[] #[.pointer (some ⟨w.heap.size, 0, none⟩)]] (w.alloc (.cells #[.map (some pm)] 44)) fun e w' => ∃ A c K, e = .returned (.slice A K.length c) ∧ K.Pairwise (· < ·) ∧ (∀ v, v ∈ K ↔ (m (keyI v)).isSome = true) ∧ K.length ≤ n ∧ w'.ownsRow w.heap.size 3 1 (.slice A K.length c) K.length (i64V K) ∧ Below w.heap.size w w' := by
  obtain ⟨D, h1, h2⟩ := hm
  obtain ⟨k1, k2, k3⟩ := ints_keys h1
  refine (Tryz.slices_Sorted_int pm n D valR w h1 (by unfold maxLen; omega) (by omega)).mono ?_
  rintro e w' ⟨v, ss, rfl, hp, hrow, hnil, hb⟩
  have hb0 := below_one w (.cells #[.map (some pm)] 44)
  have hlen : (ss.mergeSort fun x y => decide (x ≤ y)).length = ss.length := List.length_mergeSort ss
  have hrow2 : w'.ownsRow w.heap.size 3 1 v (ss.mergeSort fun x y => decide (x ≤ y)).length (i64V (ss.mergeSort fun x y => decide (x ≤ y))) := by
    rw [hlen]
    exact own_mono hrow hb0.size
  obtain ⟨A, c, rfl, _, _⟩ := own_intRow hrow2
  refine ⟨A, c, ss.mergeSort fun x y => decide (x ≤ y), rfl, sort_rising (hp.nodup_iff.2 k1), fun v => ?_, ?_, hrow2, below_from hb0 hb⟩
  · rw [(List.mergeSort_perm ss _).mem_iff, hp.mem_iff, k2, (h2 (keyI v) trivial).1]
  · have e1 : ss.length = Maps.size D := by
      rw [hp.length_eq]
      obtain ⟨es, hD, _⟩ := h1.entries intKeyed
      subst hD
      show (es.map fun p => Go.intOf p.1).length = es.length
      simp
    omega
end Go.Proofs.YtlidenehfmlebaaGreatDoor
