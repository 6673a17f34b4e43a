/-
  The reference's Set: what it comes to.
-/
import Derived.Test.YtaaeobdihfbjfaaDoorPathSet
import Derived.Test.YtaaeobdihfbjfaaDoorSetRef
import Derived.Test.YtaaeobdihfbjfaaDoorRefPath
import Derived.Deep.QuietTactic
set_option linter.unusedVariables false
set_option linter.unusedSimpArgs false
namespace Go.Proofs.YtaaeobdihfbjfaaDoor
open Go.RowKit
theorem below_drewN {B : Nat} {w W : World} (h : Below B w W) (n : Nat) : Below B w (W.drewN n) := ⟨h.os, h.tape, h.output, h.size, h.block⟩
theorem own_drewN {w : World} {base : Nat} {e : TypeId} {size n : Nat} {v : Value} {xs : List Value} (h : w.ownsRow base e size v n xs) (m : Nat) : (w.drewN m).ownsRow base e size v n xs := h
theorem own_swap {w : World} {base g n cap : Nat} {e : TypeId} {zs : List ByteArray} {a b : Nat} {x y : ByteArray} (h : w.ownsRow base e 1 (.slice (some ⟨g, 0, none⟩) n cap) n (strs zs)) (ha : a < zs.length) (hb : b < zs.length) (hx : x = zs[a]) (hy : y = zs[b]) :
    ((w.setCell ⟨g, a, none⟩ (.string y)).setCell ⟨g, b, none⟩ (.string x)).ownsRow base e 1 (.slice (some ⟨g, 0, none⟩) n cap) n (strs (swap zs a b ha hb)) := by
  subst hx hy
  have h1 := ((h.stored a (.string zs[b])).1.stored b (.string zs[a])).1
  rw [swap, strs, List.map_set, List.map_set]
  exact h1
/-- What the reference's Set hands back. -/
def RSetPost (w : World) (r : SetR) (e : Ending) (w' : World) : Prop :=
  Below w.heap.size w w' ∧ match r with
  | .none_ i => e = .returned (.tuple #[.slice none 0 0, .int .i64 90, .int .i64 i])
  | .bad i c => e = .returned (.tuple #[.slice none 0 0, .int .i64 c, .int .i64 i])
  | .ok xs => ∃ v, e = .returned (.tuple #[v, .int .i64 0, .int .i64 0]) ∧ w'.ownsRow w.heap.size 9 1 v xs.length (strs xs)
theorem rset_bad {w w' : World} {i c : Nat} {r : SetR} (hr : r = .bad i c) (hb : Below w.heap.size w w') : RSetPost w r (.returned (.tuple #[.slice none 0 0, .int .i64 c, .int .i64 i])) w' := by
  subst hr
  exact ⟨hb, rfl⟩
theorem best_none {s x : ByteArray} {p : ByteArray × Nat} (h : hit s x = none) : best s p x = p := by rw [best, h]
theorem best_first {s x : ByteArray} {p : ByteArray × Nat} {d : Nat} (h : hit s x = some d) (h0 : p.2 = 0) : best s p x = (x, d) := by simp [best, h, h0]
theorem best_less {s x : ByteArray} {p : ByteArray × Nat} {d : Nat} (h : hit s x = some d) (h0 : Op.bytesLess x.toList p.1.toList = true) : best s p x = (x, d) := by simp [best, h, ltB, h0]
theorem best_more {s x : ByteArray} {p : ByteArray × Nat} {d : Nat} (h : hit s x = some d) (h1 : p.2 ≠ 0) (h0 : Op.bytesLess x.toList p.1.toList = false) : best s p x = p := by simp [best, h, ltB, h0, h1]
set_option maxRecDepth 100000 in
set_option maxHeartbeats 4000000 in
theorem rset_walk (ad : Addr) (c : Nat) (l : List ByteArray) (w : World) (hl0 : 0 < l.length) (hl : l.length ≤ 1000) (hc : TextsIn w ad l) (hz : ∀ s ∈ l, s.size ≤ 140737488351232) :
    Calls Tryd.prog 57 #[.slice (some ad) l.length c] w (RSetPost w (setGo 0 [] l)) := by
  obtain ⟨i0, hi0, hz0, hz1, hz2⟩ := info_parts infoStr
  have HC := Lib.hid hc
  have HZ := Lib.hid hz
  clear hc hz
  go_enter Tryd.func57, Tryd.ntmps57
  go_wp2_with fail
  go_loopw [5] (fun i wr => ∃ k : Nat, k ≤ l.length ∧ i = .int .i64 k ∧ Below w.heap.size w wr ∧ ∃ xs, Rising xs ∧ xs.Perm (l.take k) ∧ setGo k xs (l.drop k) = setGo 0 [] l) (fun i _ => l.length - (intOf i).toNat)
  case atStart => exact ⟨0, by omega, rfl, Below.refl _ _, [], List.Pairwise.nil, List.Perm.refl _, rfl⟩
  case round =>
    obtain ⟨k, hk, rfl, hb, xs, hri, hpe, hset⟩ := hrel
    have HRI := Lib.hid hri
    have HPE := Lib.hid hpe
    have HS := Lib.hid hset
    clear hri hpe hset
    by_cases hlt : k < l.length
    · obtain ⟨s, hs⟩ : ∃ s, s = l[k] := ⟨_, rfl⟩
      have hcell := (HC.out.below hb) k hlt
      rw [← hs] at hcell
      have hsz := HZ.out s (hs ▸ List.getElem_mem hlt)
      have hset2 : setGo k xs (s :: l.drop (k + 1)) = setGo 0 [] l := by rw [hs, ← List.drop_eq_getElem_cons hlt]; exact HS.out
      have htk : l.take (k + 1) = l.take k ++ [s] := by rw [hs, List.take_succ_eq_append_getElem hlt]
      have HS2 := Lib.hid hset2
      have HTK := Lib.hid htk
      have HSL := Lib.hid hs
      clear hs hset2 htk
      cases hck : checkB s with
      | some p =>
        have hres : setGo 0 [] l = .none_ k := by rw [← HS2.out, setGo, hck]
        have HR := Lib.hid hres
        have HCK := Lib.hid hck
        clear hck hres
        go_wp2_with fail
        refine (rcheck_any s _ hsz).mono ?_
        rw [HCK.out]
        rintro e w2 ⟨rfl, rfl⟩
        simp only [refRes]
        go_wp2
        go_ret3
        rw [HR.out]
        exact ⟨hb, rfl⟩
      | none =>
        have HCK := Lib.hid hck
        clear hck
        go_wp2_with fail
        refine (rcheck_any s _ hsz).mono ?_
        rw [HCK.out]
        rintro e w2 ⟨rfl, rfl⟩
        simp only [refRes]
        go_wp2_with fail
        go_loopw [8, 9, 10] (fun f d i wq => ∃ j : Nat, j ≤ k ∧ i = .int .i64 j ∧ f = .string (bests s (l.take j)).1 ∧ d = .int .i64 (bests s (l.take j)).2 ∧ Below w.heap.size w wq) (fun _ _ i _ => k - (intOf i).toNat)
        case atStart => exact ⟨0, by omega, rfl, rfl, rfl, hb⟩
        case round =>
          obtain ⟨j, hj, rfl, rfl, rfl, hb2⟩ := hrel
          clear hcell hb
          have hjl : j < l.length := by omega
          obtain ⟨p, hp⟩ : ∃ p, p = bests s (l.take j) := ⟨_, rfl⟩
          rw [← hp]
          by_cases hjk : j < k
          · obtain ⟨x, hx⟩ : ∃ x, x = l[j] := ⟨_, rfl⟩
            have hcx := (HC.out.below hb2) j hjl
            have hcs := (HC.out.below hb2) k hlt
            rw [← HSL.out] at hcs
            have hnx := bests_next s l j hjl
            rw [← hx] at hcx
            rw [← hx, ← hp] at hnx
            have hxz := HZ.out x (hx ▸ List.getElem_mem hjl)
            have HNX := Lib.hid hnx
            clear hx hp hnx
            cases b1 : (x.toList == s.toList) with
            | true =>
              have HH := Lib.hid (hit_same b1)
              by_cases h0 : p.2 = 0
              · have HN2 := Lib.hid (HNX.out.trans (best_first HH.out h0))
                have h0b : ((p.2 : Int) == 0) = true := by simp [h0]
                go_wp2_with fail
                go_quiet (fail)
                go_wp2_with fail
                go_roundw
                case rel => exact ⟨j + 1, by omega, by go_num, by rw [HN2.out], by rw [HN2.out]; rfl, below_drewN hb2 _⟩
                case measure => simp [intOf]; omega
              · have h0b : ((p.2 : Int) == 0) = false := by simp [h0]
                cases b3 : Op.bytesLess x.toList p.1.toList with
                | true =>
                  have HN2 := Lib.hid (HNX.out.trans (best_less HH.out b3))
                  go_wp2_with fail
                  go_quiet (fail)
                  go_wp2_with fail
                  go_roundw
                  case rel => exact ⟨j + 1, by omega, by go_num, by rw [HN2.out], by rw [HN2.out]; rfl, below_drewN hb2 _⟩
                  case measure => simp [intOf]; omega
                | false =>
                  have HN2 := Lib.hid (HNX.out.trans (best_more HH.out h0 b3))
                  go_wp2_with fail
                  go_quiet (fail)
                  go_wp2_with fail
                  go_roundw
                  case rel => exact ⟨j + 1, by omega, by go_num, by rw [HN2.out], by rw [HN2.out], below_drewN hb2 _⟩
                  case measure => simp [intOf]; omega
            | false =>
              cases b2 : clashB x s with
              | true =>
                have HCL := Lib.hid (fun W => b2 ▸ rclash_any x s W hxz hsz)
                have HH := Lib.hid (hit_clash b1 b2)
                by_cases h0 : p.2 = 0
                · have HN2 := Lib.hid (HNX.out.trans (best_first HH.out h0))
                  have h0b : ((p.2 : Int) == 0) = true := by simp [h0]
                  go_wp2_with fail
                  go_quiet (fail)
                  go_wp2_with fail
                  go_quiet ((refine (HCL.out _).mono ?_; rintro e w2 ⟨rfl, rfl⟩; exact ⟨rfl, _, rfl⟩))
                  go_wp2_with fail
                  go_roundw
                  case rel => exact ⟨j + 1, by omega, by go_num, by rw [HN2.out], by rw [HN2.out]; rfl, below_drewN hb2 _⟩
                  case measure => simp [intOf]; omega
                · have h0b : ((p.2 : Int) == 0) = false := by simp [h0]
                  cases b3 : Op.bytesLess x.toList p.1.toList with
                  | true =>
                    have HN2 := Lib.hid (HNX.out.trans (best_less HH.out b3))
                    go_wp2_with fail
                    go_quiet (fail)
                    go_wp2_with fail
                    go_quiet ((refine (HCL.out _).mono ?_; rintro e w2 ⟨rfl, rfl⟩; exact ⟨rfl, _, rfl⟩))
                    go_wp2_with fail
                    go_roundw
                    case rel => exact ⟨j + 1, by omega, by go_num, by rw [HN2.out], by rw [HN2.out]; rfl, below_drewN hb2 _⟩
                    case measure => simp [intOf]; omega
                  | false =>
                    have HN2 := Lib.hid (HNX.out.trans (best_more HH.out h0 b3))
                    go_wp2_with fail
                    go_quiet (fail)
                    go_wp2_with fail
                    go_quiet ((refine (HCL.out _).mono ?_; rintro e w2 ⟨rfl, rfl⟩; exact ⟨rfl, _, rfl⟩))
                    go_wp2_with fail
                    go_roundw
                    case rel => exact ⟨j + 1, by omega, by go_num, by rw [HN2.out], by rw [HN2.out], below_drewN hb2 _⟩
                    case measure => simp [intOf]; omega
              | false =>
                have HCL := Lib.hid (fun W => b2 ▸ rclash_any x s W hxz hsz)
                have HN2 := Lib.hid (HNX.out.trans (best_none (hit_none b1 b2)))
                go_wp2_with fail
                go_quiet (fail)
                go_wp2_with fail
                go_quiet ((refine (HCL.out _).mono ?_; rintro e w2 ⟨rfl, rfl⟩; exact ⟨rfl, _, rfl⟩))
                go_wp2_with fail
                go_roundw
                case rel => exact ⟨j + 1, by omega, by go_num, by rw [HN2.out], by rw [HN2.out], below_drewN hb2 _⟩
                case measure => simp [intOf]; omega
          · obtain rfl : j = k := by omega
            have hsb := scan_best (s := s) HPE.out HRI.out
            rw [← hp] at hsb
            by_cases h0 : p.2 = 0
            · rw [if_pos h0] at hsb
              have h0b : ((p.2 : Int) == 0) = true := by simp [h0]
              have HSB := Lib.hid hsb
              clear hsb hp
              go_wp2_with fail
              go_roundw
              case rel => exact ⟨j + 1, by omega, by go_num, hb2, ins s xs, ins_rising HRI.out HSB.out, by rw [HTK.out]; exact (ins_perm s xs).trans (HPE.out.append_right _), setGo_next HS2.out HCK.out HSB.out⟩
              case measure => simp [intOf]; omega
            · rw [if_neg h0] at hsb
              have h0b : ((p.2 : Int) == 0) = false := by simp [h0]
              have HR := Lib.hid (setGo_hit HS2.out HCK.out hsb)
              clear hsb hp
              go_wp2_with fail
              go_ret3
              exact rset_bad HR.out hb2
    · have hk2 : k = l.length := by omega
      have hres : setGo 0 [] l = .ok xs := by rw [← HS.out, hk2, List.drop_length]; rfl
      have hpl : xs.Perm l := by have := HPE.out; rwa [hk2, List.take_length] at this
      have HR := Lib.hid hres
      have HPL := Lib.hid hpl
      clear hres hpl
      subst hk2
      have hsrc : Hid (∀ j u, (strs l)[j]? = some u → (wr.alloc (.cells #[] 9)).cell? (ad.add j) = some u) := by
        intro j u hj
        obtain ⟨hlt2, rfl⟩ := List.getElem?_eq_some_iff.1 hj
        have hlt3 : j < l.length := by simpa [strs] using hlt2
        have := (HC.out.below (hb.alloc hb.size (.cells #[] 9))) j hlt3
        simpa [strs] using this
      have hown0 : Hid ((wr.alloc (.cells #[] 9)).ownsRow w.heap.size 9 1 (.slice (some ⟨wr.heap.size, 0, none⟩) 0 0) 0 []) := World.ownsRow_lit wr #[] 0 hb.size (by simp) (by simp)
      have hb1 := hb.alloc hb.size (.cells #[] 9)
      have HB1 := Lib.hid hb1
      clear hb1
      go_wp2_with (at_builtin; go_loud (refine wpList_append_own _ rfl (.tmp 79) (.tmp 80) 29 rfl w.heap.size 9 i0 (.string ⟨#[]⟩) 1 16 Tryd.underlying29 hi0 hz0 hz1 hz2 rfl (by decide) (.slice (some ⟨wr.heap.size, 0, none⟩) 0 0) 0 [] (by simp [Act.eval, Act.put]) hown0.out ad l.length c (strs l) (by simp [Act.eval, Act.put]) (by simp [strs]) hsrc.out (strs_one l) (by unfold maxLen; omega) (by omega) HB1.out.size ?_); intro v2 w2 hown hgrow _)
      have HB2 := Lib.hid (HB1.out.grown hgrow HB1.out.size (fun k hk => by (have h1 : wr.heap.size = k := by simpa [Value.ownBlock] using hk); have := hb.size; omega))
      have hown2 : w2.ownsRow w.heap.size 9 1 v2 l.length (strs l) := by simpa using hown
      obtain ⟨g, cap, hv, hcap, _⟩ := own_form hown2 hl0
      subst hv
      have HO := Lib.hid hown2
      clear hown hown2 hgrow
      go_wp2_with fail
      go_loopw [13] (fun i wq => ∃ (a : Nat) (ys : List ByteArray), a ≤ l.length ∧ i = .int .i64 a ∧ ys.Perm l ∧ Sorts ys a (a + 1) ∧ wq.ownsRow w.heap.size 9 1 (.slice (some ⟨g, 0, none⟩) l.length cap) l.length (strs ys) ∧ Below w.heap.size w wq) (fun i _ => l.length - (intOf i).toNat)
      case atStart => exact ⟨0, l, by omega, rfl, List.Perm.refl _, Sorts.start l, HO.out, HB2.out⟩
      case round =>
        obtain ⟨a, ys, ha, rfl, hp, hs, ho, hb3⟩ := hrel
        have hyl := hp.length_eq
        by_cases halt : a < l.length
        · have HP := Lib.hid hp
          have HSo := Lib.hid hs
          have HO3 := Lib.hid ho
          clear hp hs ho
          go_wp2_with fail
          go_loopw [14] (fun i wq => ∃ (b : Nat) (ys : List ByteArray), a < b ∧ b ≤ l.length ∧ i = .int .i64 b ∧ ys.Perm l ∧ Sorts ys a b ∧ wq.ownsRow w.heap.size 9 1 (.slice (some ⟨g, 0, none⟩) l.length cap) l.length (strs ys) ∧ Below w.heap.size w wq) (fun i _ => l.length - (intOf i).toNat)
          case atStart => exact ⟨a + 1, ys, by omega, by omega, by go_num, HP.out, HSo.out, HO3.out, hb3⟩
          case round =>
            obtain ⟨b, zs, hab, hbl, rfl, hp, hs, ho, hb4⟩ := hrel
            have hzl := hp.length_eq
            have HP4 := Lib.hid hp
            have HS4 := Lib.hid hs
            have HO4 := Lib.hid ho
            clear hp hs ho
            by_cases hblt : b < l.length
            · obtain ⟨x, hx⟩ : ∃ x, x = zs[a]'(by omega) := ⟨_, rfl⟩
              obtain ⟨y, hy⟩ : ∃ y, y = zs[b]'(by omega) := ⟨_, rfl⟩
              have hcx := (HO4.out.cellAt a (by omega)).trans (show (strs zs)[a]? = some (.string x) by rw [hx]; simp [strs])
              have hcy := (HO4.out.cellAt b (by omega)).trans (show (strs zs)[b]? = some (.string y) by rw [hy]; simp [strs])
              have hfx := HO4.out.frozenAt a
              have hfy := HO4.out.frozenAt b
              have HX := Lib.hid hx
              have HY := Lib.hid hy
              clear hx hy
              have hne : ¬ a = b := by omega
              have hne2 : ¬ b = a := by omega
              cases hlt2 : Op.bytesLess y.toList x.toList with
              | true =>
                have HLT := Lib.hid hlt2
                have hby2 : b < zs.length := by omega
                have hax2 : a < zs.length := by omega
                go_wp2_with fail
                go_quiet (fail)
                go_wp2_with fail
                go_roundw
                case rel => exact ⟨b + 1, swap zs a b hax2 hby2, by omega, by omega, by go_num, (swap_perm hax2 hby2).trans HP4.out, HS4.out.swap hax2 hby2 hab (by rw [← HX.out, ← HY.out]; exact HLT.out), own_swap (own_drewN HO4.out _) hax2 hby2 HX.out HY.out, ((below_drewN hb4 _).setCell (HO4.out.lt g rfl).1 _).setCell (HO4.out.lt g rfl).1 _⟩
                case measure => simp [intOf]; omega
              | false =>
                have HLT := Lib.hid hlt2
                go_wp2_with fail
                go_quiet (fail)
                go_wp2_with fail
                go_roundw
                case rel => exact ⟨b + 1, zs, by omega, by omega, by go_num, HP4.out, HS4.out.step (by omega) (by omega) (by rw [← HX.out, ← HY.out]; exact HLT.out), HO4.out, below_drewN hb4 _⟩
                case measure => simp [intOf]; omega
            · obtain rfl : b = l.length := by omega
              go_wp2_with fail
              go_roundw
              case rel => exact ⟨a + 1, zs, by omega, by go_num, HP4.out, HS4.out.done (by omega), HO4.out, hb4⟩
              case measure => simp [intOf]; omega
        · obtain rfl : a = l.length := by omega
          have he := rising_unique HRI.out (hp.trans HPL.out.symm) hs (by omega)
          subst he
          have HO3 := Lib.hid ho
          clear hp hs ho
          go_wp2
          go_ret3
          refine ⟨hb3, ?_⟩
          rw [HR.out]
          refine ⟨_, rfl, ?_⟩
          rw [hyl]
          exact HO3.out
set_option maxRecDepth 100000 in
set_option maxHeartbeats 4000000 in
theorem rset_empty (A : Option Addr) (c : Nat) (w : World) :
    Calls Tryd.prog 57 #[.slice A 0 c] w (RSetPost w (setGo 0 [] [])) := by
  obtain ⟨i0, hi0, hz0, hz1, hz2⟩ := info_parts infoStr
  go_enter Tryd.func57, Tryd.ntmps57
  go_wp2_with fail
  refine wp_loop_rounds 1 ?_
  rw [rounds_succ]
  have hown0 : Hid ((w.alloc (.cells #[] 9)).ownsRow w.heap.size 9 1 (.slice (some ⟨w.heap.size, 0, none⟩) 0 0) 0 []) := World.ownsRow_lit w #[] 0 (Nat.le_refl _) (by simp) (by simp)
  go_wp2_with (at_builtin; go_loud (refine wpList_append_nothing rfl (.tmp 79) (.tmp 80) 29 rfl 9 i0 Tryd.underlying29 hi0 (some ⟨w.heap.size, 0, none⟩) 0 0 (by simp [Act.eval, Act.put]) (by omega) A c (by simp [Act.eval, Act.put]) ?_))
  refine wp_loop_rounds 1 ?_
  rw [rounds_succ]
  go_wp2
  go_ret3
  exact ⟨(Below.refl _ _).alloc (Nat.le_refl _) _, _, rfl, hown0.out⟩
end Go.Proofs.YtaaeobdihfbjfaaDoor
