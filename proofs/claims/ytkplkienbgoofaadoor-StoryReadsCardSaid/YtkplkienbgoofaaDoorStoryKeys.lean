/-
  A map of texts: its paths, sorted; a copy of it.
-/
import Derived.Test.YtkplkienbgoofaaDoorStoryMap
import Derived.Outline
set_option linter.unusedVariables false
set_option linter.unusedSimpArgs false
namespace Go.Proofs.YtkplkienbgoofaaDoor
open Go.RowKit Go.Maps Go.WideMaps Go.WideAt
theorem texts_keys {w : World} {b n : Nat} {D : DataW Value} (h : w.ownsMap Tryd.prog 9 valR b n D) : (strKeys D).Nodup ∧ (∀ p : ByteArray, p.data.toList ∈ strKeys D ↔ Maps.has D (keyS p) = true) ∧ (strKeys D).length = Maps.size D := by
  have hk := Tryd.underlying9
  have h' := h
  obtain ⟨es, hD, hp, _⟩ := h.entries strKeyed
  obtain ⟨es0, clock, hb, Ft, hs, hD0⟩ := h'
  have hkey : ∀ p ∈ es, ∃ x, p.1 = .string x := fun p hpm => by
    rw [hD] at hD0
    injection hD0 with hD0
    rw [hD0, mem_sorted] at hpm
    obtain ⟨x, hx, rfl⟩ := List.mem_map.1 hpm
    obtain ⟨y, hy⟩ := Ft.reads x hx
    obtain ⟨z, _, e, _⟩ := Maps.keyOf_str hk (WideElems.rd_key hy)
    exact ⟨z, by rw [WideElems.rg_of hy]; exact e⟩
  subst hD
  refine ⟨?_, fun q => ?_, ?_⟩
  · show (es.map fun p => strOf p.1).Nodup
    unfold List.Nodup
    rw [List.pairwise_map]
    exact hp.imp_of_mem (fun {p q} hpm hqm hne e => hne (by
      obtain ⟨x, hx⟩ := hkey p hpm
      obtain ⟨y, hy⟩ := hkey q hqm
      rw [hx, hy] at e ⊢
      exact congrArg _ e))
  · show q.data.toList ∈ (es.map fun p => strOf p.1) ↔ es.any (fun p => p.1.sameKey (keyS q)) = true
    rw [List.mem_map, List.any_eq_true]
    constructor
    · rintro ⟨p, hpm, e⟩
      obtain ⟨x, hx⟩ := hkey p hpm
      rw [hx] at e
      have e2 : x = q.data.toList := e
      exact ⟨p, hpm, by rw [hx, e2]; exact same_self (l := keyS q) trivial⟩
    · rintro ⟨p, hpm, e⟩
      refine ⟨p, hpm, ?_⟩
      rw [WideAt.sameKey_eq e]
      rfl
  · show (es.map fun p => strOf p.1).length = es.length
    simp
/-- Texts in their order, each once, that are a map's paths. -/
structure PathsOf (K : List ByteArray) (M : FM) : Prop where
  rising : K.Pairwise fun a b => a.data.toList < b.data.toList
  mem : ∀ p, p ∈ K ↔ p ∈ M.map Prod.fst
  len : K.length = M.length
theorem strs_back (l : List (List UInt8)) : (l.map fun b => (⟨b.toArray⟩ : ByteArray)).map (fun s => s.data.toList) = l := by
  rw [List.map_map]
  conv => rhs; rw [← List.map_id l]
  exact List.map_congr_left (fun x _ => by simp)
set_option maxRecDepth 100000 in
set_option maxHeartbeats 4000000 in
theorem paths_any (b : Nat) (M : FM) (w : World) (hn : M.length ≤ 100000) (hm : FMapAt w b M) :
    Calls Tryd.prog 7 #[.map (some b)] w fun e w' => ∃ A c K, e = .returned (.slice A K.length c) ∧ K.length ≤ c ∧ PathsOf K M ∧ w'.ownsRow w.heap.size 9 1 (.slice A K.length c) K.length (strs K) ∧ TextRow w' A K ∧ Below w.heap.size w w' := by
  obtain ⟨m, ⟨D, h1, h2⟩, h3⟩ := hm
  obtain ⟨k1, k2, k3⟩ := texts_keys h1
  have hsz : Maps.size D = M.length := by
    have := size_of_keys h1 (fun kl hkl => (h2 kl hkl).1) strKeyed (keysM_once h3.once) (fun kl _ => h3.iff kl) (fun kl hin => by
      obtain ⟨x, _, rfl⟩ := List.mem_map.1 hin
      trivial)
    rw [List.length_map] at this
    exact this
  have HS := Lib.hid (Tryd.slices_Sorted_str b M.length D valR w h1 (by unfold maxLen; omega) (by omega))
  have hmem : ∀ p : ByteArray, p.data.toList ∈ strKeys D ↔ p ∈ M.map Prod.fst := fun p => by
    rw [k2, (h2 (keyS p) trivial).1, h3.isSome]
  have HM := Lib.hid hmem
  have HK1 := Lib.hid k1
  have HK3 := Lib.hid (k3.trans hsz)
  clear h1 h2 h3 k1 k2 k3 hsz hmem
  go_enter Tryd.func7, Tryd.ntmps7
  go_wp2_with fail
  refine (Tryd.maps_Keys_str (some b) w).mono ?_
  rintro e w1 ⟨rfl, rfl⟩
  go_wp2_with fail
  refine HS.out.mono ?_
  rintro e w2 ⟨v, ss, rfl, hp, hrow, hnil, hb2⟩
  have hb0 := below_one w (.cells #[.map (some b)] 38)
  obtain ⟨K, hK⟩ : ∃ K : List ByteArray, K = (ss.mergeSort fun x y => decide (x ≤ y)).map fun b => ⟨b.toArray⟩ := ⟨_, rfl⟩
  have hKb : K.map (fun s => s.data.toList) = ss.mergeSort fun x y => decide (x ≤ y) := by rw [hK, strs_back]
  have hKl : K.length = ss.length := by rw [hK, List.length_map, List.length_mergeSort]
  have hrow2 : w2.ownsRow w.heap.size 9 1 v K.length (strs K) := by
    rw [hKl, hK, ← strs_enc]
    exact own_mono hrow hb0.size
  obtain ⟨A, c, rfl, hc, htx⟩ := own_row hrow2
  have hperm : (K.map fun s => s.data.toList).Perm (strKeys D) := by rw [hKb]; exact (List.mergeSort_perm ss _).trans hp
  have hnd : (K.map fun s => s.data.toList).Nodup := hperm.nodup_iff.2 HK1.out
  have hpo : PathsOf K M := by
    refine ⟨?_, fun p => ?_, ?_⟩
    · have tr : ∀ a b c : List UInt8, decide (a ≤ b) = true → decide (b ≤ c) = true → decide (a ≤ c) = true := fun a b c h1 h2 => by
        simp only [decide_eq_true_eq] at *
        exact List.le_trans h1 h2
      have tot : ∀ a b : List UInt8, (decide (a ≤ b) || decide (b ≤ a)) = true := fun a b => by
        simp only [Bool.or_eq_true, decide_eq_true_eq]
        exact List.le_total a b
      have hs := List.pairwise_mergeSort (le := fun x y : List UInt8 => decide (x ≤ y)) tr tot ss
      rw [← hKb, List.pairwise_map] at hs
      unfold List.Nodup at hnd
      rw [List.pairwise_map] at hnd
      exact (hs.and hnd).imp (fun {a b} h => by
        have h1 := h.1
        simp only [decide_eq_true_eq] at h1
        exact Classical.byContradiction fun hn => h.2 (List.le_antisymm h1 (List.not_lt.1 hn)))
    · rw [← HM.out p]
      rw [← hperm.mem_iff]
      constructor
      · exact fun h => List.mem_map.2 ⟨p, h, rfl⟩
      · intro h
        obtain ⟨q, hq, e⟩ := List.mem_map.1 h
        rw [← ba_ext e]
        exact hq
    · rw [← HK3.out, ← hperm.length_eq, List.length_map]
  clear hKl hKb hK hrow hperm hnd
  go_wp2_with fail
  go_ret
  exact ⟨A, c, K, rfl, hc, hpo, hrow2, htx, below_from hb0 hb2⟩
end Go.Proofs.YtkplkienbgoofaaDoor
