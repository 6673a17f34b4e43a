/-
  (*Tree).Bytes.
-/
import Derived.Test.YtmamkegcnacbbaaDoorTreeAllW
set_option linter.unusedVariables false
set_option linter.unusedSimpArgs false
namespace Go.Proofs.YtmamkegcnacbbaaDoor
open Go.RowKit Go.Maps Go.WideMaps Go.WideAt
theorem lenAt_le {w : World} {base g b now : Nat} {F : List FileS} (h : TreeAt w base g b now F) (v : Int) (p : ByteArray) : lenAt F v p ≤ 300000 := by
  unfold lenAt
  cases hr : atRow F v p with
  | none => simp
  | some r => exact (h.data hr).2.2
theorem at_len {w : World} {base g b now : Nat} {F : List FileS} (h : TreeAt w base g b now F) (v : Int) (p : ByteArray) : ∃ A c u, atV (atRow F v p) = .tuple #[.slice A (lenAt F v p) c, u] := by
  unfold lenAt
  cases hr : atRow F v p with
  | none => exact ⟨_, _, _, rfl⟩
  | some r =>
    obtain ⟨A, c, e, _⟩ := own_bytes (h.data hr).1
    exact ⟨A, c, _, by rw [atV, e]⟩
theorem read_len {now : Nat} {F : List FileS} {v : Int} {p : ByteArray} {d : List Int} (h : readT now F v p = (d, 0)) : lenAt F v p = d.length := by
  unfold readT at h
  split at h
  · cases h
  · unfold lenAt
    cases hr : atRow F v p with
    | none => rw [hr] at h; cases h
    | some r =>
      rw [hr] at h
      simp only at h
      split at h
      · cases h
      · injection h with h _
        rw [← h]
theorem read_zero {now : Nat} {F : List FileS} {v : Int} {p : ByteArray} (h0 : 0 ≤ v) (h1 : v ≤ now) : (thereB F v p = true → ∃ d, readT now F v p = (d, 0)) ∧ (thereB F v p = false → readT now F v p = ([], 4)) := by
  rw [readT, if_neg (by omega)]
  unfold thereB
  cases hr : atRow F v p with
  | none => exact And.intro (fun h => by cases h) (fun _ => rfl)
  | some r =>
    cases hg : r.gone with
    | true => exact And.intro (fun h => by simp [hg] at h) (fun _ => by simp [hg])
    | false => exact And.intro (fun _ => ⟨r.data, by simp [hg]⟩) (fun h => by simp [hg] at h)
set_option maxRecDepth 100000 in
set_option maxHeartbeats 4000000 in
theorem bytes_any (g b now : Nat) (v : Int) (root : ByteArray) (F : List FileS) (w : World) {base : Nat} (hroot : root.size ≤ 140737488351232) (hm : mapN F ≤ 90000) (ht : TreeAt w base g b now F) :
    Calls Tryd.prog 26 #[.pointer (some ⟨g, 0, none⟩), .int .i64 v, .string root] w fun e w' => e = .returned (.int .i64 ((sumL (lenAt F v) (listT now F v root).1 : Nat) : Int)) ∧ Below w.heap.size w w' := by
  have hs := ht.small hm
  have HLA := Lib.hid (list_any g b now v root F w hroot (fun f hf => Nat.le_trans (hs.2 f hf) (by omega)) (Nat.le_trans hs.1 (by omega)) ht)
  have hll := Nat.le_trans (list_len now F v root) hs.1
  have HT := Lib.hid ht
  have HS := Lib.hid hs
  obtain ⟨L, hL⟩ : ∃ L, L = listT now F v root := ⟨_, rfl⟩
  have hps : ∀ p ∈ L.1, p.size ≤ maxLen := fun p hp => by
    rw [hL] at hp
    obtain ⟨f, hf, rfl⟩ := List.mem_map.1 (list_there hp).1
    have := (ht.files f hf).2.2.2
    unfold maxLen
    omega
  have HPS := Lib.hid hps
  rw [← hL] at hll ⊢
  have HL := Lib.hid hL
  clear ht hs hL hps
  go_enter Tryd.func26, Tryd.ntmps26
  go_wp2_with fail
  refine HLA.out.mono ?_
  unfold ListPost
  rw [← HL.out]
  rintro e w2 ⟨u, rfl, ho, hb2⟩
  obtain ⟨A, c, rfl, hc, hr⟩ := own_row ho
  have HR := Lib.hid hr
  have HT2 := Lib.hid (HT.out.below hb2)
  have HB2 := Lib.hid hb2
  clear ho hr hb2
  go_wp2_with fail
  go_loopw [7, 23] (fun n i wr => ∃ k : Nat, k ≤ L.1.length ∧ i = .int .i64 k ∧ n = .int .i64 ((sumL (lenAt F v) (L.1.take k) : Nat) : Int) ∧ Below w2.heap.size w2 wr) (fun _ i _ => L.1.length - (intOf i).toNat)
  case atStart => exact ⟨0, by omega, rfl, by simp [sumL], Below.refl _ _⟩
  case round =>
    obtain ⟨k, hk, rfl, rfl, hbr⟩ := hrel
    have HBR := Lib.hid hbr
    clear hbr
    by_cases hlt : k < L.1.length
    · obtain ⟨ad, rfl, htx⟩ := (HR.out.below HBR.out) (by omega)
      obtain ⟨p, hp⟩ : ∃ p, p = L.1[k] := ⟨_, rfl⟩
      have x1 := htx k hlt
      rw [← hp] at x1
      have hpz := HPS.out p (hp ▸ List.getElem_mem hlt)
      have htk : sumL (lenAt F v) (L.1.take (k + 1)) = sumL (lenAt F v) (L.1.take k) + lenAt F v p := by
        rw [List.take_succ_eq_append_getElem hlt, sumL_snoc, hp]
      have HTK := Lib.hid htk
      have hle := sumL_le (l := L.1.take k) (f := lenAt F v) (m := 300000) (fun q _ => lenAt_le HT.out v q)
      have hlen : (L.1.take k).length ≤ 90000 := by rw [List.length_take]; omega
      have hle2 : sumL (lenAt F v) (L.1.take k) ≤ 27000000000 := Nat.le_trans hle (Nat.mul_le_mul_right 300000 hlen)
      have hlp := lenAt_le HT.out v p
      obtain ⟨s, hs⟩ : ∃ s, s = sumL (lenAt F v) (L.1.take k) := ⟨_, rfl⟩
      rw [← hs] at hle2 ⊢
      have HSS := Lib.hid hs
      obtain ⟨Ad, cd, ud, hat⟩ := at_len HT.out v p
      have HAT := Lib.hid hat
      clear htx hp htk hle hlen hs hat
      go_wp2_with fail
      refine (at_any g b now v p F wr hpz (fun f hf => Nat.le_trans (HS.out.2 f hf) (by omega)) (HT2.out.below HBR.out)).mono ?_
      rw [HAT.out]
      rintro e w3 ⟨rfl, hb3⟩
      have HB3 := Lib.hid (below_from HBR.out hb3)
      clear hb3
      go_wp2_with fail
      go_roundw
      case rel => exact ⟨k + 1, by omega, by go_num, by rw [HTK.out, ← HSS.out]; go_num, HB3.out⟩
      case measure => simp [intOf]; omega
    · obtain rfl : k = L.1.length := by omega
      have htk : L.1.take L.1.length = L.1 := List.take_length
      have HTK := Lib.hid htk
      clear htk
      go_wp2_with fail
      go_ret
      exact ⟨(by first | (rw [HTK.out]; rfl) | rw [HTK.out]), below_from HB2.out HBR.out⟩
end Go.Proofs.YtmamkegcnacbbaaDoor
