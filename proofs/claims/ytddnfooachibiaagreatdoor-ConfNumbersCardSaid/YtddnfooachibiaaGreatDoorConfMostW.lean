/-
  The law ConfMost, walked.
-/
import Derived.Test.YtddnfooachibiaaGreatDoorConfHead
import Derived.Test.YtddnfooachibiaaGreatDoorConfMostP
import Derived.Laws.IdiomStrings
set_option linter.unusedVariables false
set_option linter.unusedSimpArgs false
namespace Go.Proofs.YtddnfooachibiaaGreatDoor
open Go.RowKit Go.Maps Go.WideMaps Go.WideAt
theorem conv_byte (x : Int) (W : World) : (convert 56 9 (.slice (some ⟨W.heap.size, 0, none⟩) 1 1)).run Tryz.prog (W.alloc (.cells #[.int .u8 x] 5)) = .ok (.string (strOfNums [x])) (W.alloc (.cells #[.int .u8 x] 5)) :=
  run_convert_bytes_arg _ 56 5 Tryz.underlying56 Tryz.underlying5 W.heap.size 0 1 1 [x] rfl (fun i hi => by
    obtain rfl : i = 0 := by omega
    simp) 9 Tryz.underlying9
theorem conv_byte2 (x y : Int) (W : World) : (convert 56 9 (.slice (some ⟨W.heap.size + 1, 0, none⟩) 1 1)).run Tryz.prog ((W.alloc (.cells #[.int .u8 y] 5)).alloc (.cells #[.int .u8 x] 5)) = .ok (.string (strOfNums [x])) ((W.alloc (.cells #[.int .u8 y] 5)).alloc (.cells #[.int .u8 x] 5)) := by
  have := conv_byte x (W.alloc (.cells #[.int .u8 y] 5))
  simpa using this
theorem nums_one (k : Nat) (h : k < 11) : (strOfNums [97 + (k : Int)]).data.toList = [UInt8.ofNat (97 + k)] := by
  have e : (97 + (k : Int)).toNat = 97 + k := by omega
  simp [strOfNums, e]
theorem most_out {m u : Nat} (h : mostOk m u = true) : (∃ ms, parseC (bA (mostL m u)) = (.nil, ms) ∧ m ≤ 8 ∧ u ≤ 8 ∧ ms.length = m ∧ ms.getLast?.map (fun x => x.us.length) = some u) ∨ (∃ p ms, parseC (bA (mostL m u)) = (.fault p 3, ms) ∧ ((8 < m ∧ p = 16) ∨ (m ≤ 8 ∧ 8 < u ∧ p = 2 * (m : Int) + 8))) := by
  unfold mostOk at h
  cases hp : parseC (bA (mostL m u)) with
  | mk g ms =>
    rw [hp] at h
    cases g with
    | nil =>
      simp only [Bool.and_eq_true, decide_eq_true_eq] at h
      exact .inl ⟨ms, rfl, h.1.1.1, h.1.1.2, h.1.2, h.2⟩
    | errno e => cases h
    | joined a b => cases h
    | fault p e =>
      simp only [Bool.and_eq_true, Bool.or_eq_true, decide_eq_true_eq] at h
      obtain ⟨rfl, h⟩ := h
      refine .inr ⟨p, ms, rfl, ?_⟩
      rcases h with h | h
      · exact .inl h
      · exact .inr ⟨h.1.1, h.1.2, h.2⟩
theorem byte_size : ∀ x : Int, (strOfNums [x]).size ≤ 140737488351232 := fun x => by rw [strOfNums_size]; simp
theorem range_flat (f : Nat → List UInt8) (k : Nat) : (List.range (k + 1)).flatMap f = (List.range k).flatMap f ++ f k := by
  rw [List.range_succ, List.flatMap_append]
  simp
theorem mods_len (k : Nat) : ((List.range k).flatMap modL).length = k * 15 := by
  induction k with
  | zero => rfl
  | succ k ih => rw [range_flat, List.length_append, ih]; simp [modL]; omega
theorem usrs_len (k : Nat) : ((List.range k).flatMap usrL).length = k * 12 := by
  induction k with
  | zero => rfl
  | succ k ih => rw [range_flat, List.length_append, ih]; simp [usrL]; omega
theorem parse_bad {s : ByteArray} {g : GErr} {ms : List ModC} {w w' : World} {e : Ending} (hp : ParsePost s w e w') (h : parseC s = (g, ms)) (hg : g ≠ .nil) : Below w.heap.size w w' ∧ ∃ t u, e = .returned (.tuple #[.agg #[.slice none 0 0], .iface t u]) ∧ ErrV w' (.iface t u) g := by
  obtain ⟨hb, ⟨t, u, g', h1, h2, rfl, h4⟩ | ⟨cv, q, h1, _, _⟩⟩ := hp
  · rw [h] at h1
    injection h1 with h1 _
    subst h1
    exact ⟨hb, t, u, rfl, h4⟩
  · rw [h] at h1
    injection h1 with h1 _
    exact absurd h1 hg
set_option maxRecDepth 100000 in
set_option maxHeartbeats 2000000 in
theorem confMost_walk (a0 a1 : Int) (w : World) (h0 : (Lit.int .i64 a0).wf = true) (h1 : (Lit.int .i64 a1).wf = true) (hg : EnvC w) : Calls Tryz.prog 5 #[.int .i64 a0, .int .i64 a1] w fun e w' => e = .returned (.bool true) ∧ Below w.heap.size w w' := by
  have HH := Lib.hid (parses_any w hg)
  have HG := Lib.hid hg
  clear hg
  by_cases hr : (1 ≤ a0 ∧ a0 ≤ 10) ∧ (0 ≤ a1 ∧ a1 ≤ 10)
  · obtain ⟨m, rfl⟩ : ∃ m : Nat, a0 = (m : Int) := ⟨a0.toNat, by omega⟩
    obtain ⟨u, rfl⟩ : ∃ u : Nat, a1 = (u : Int) := ⟨a1.toNat, by omega⟩
    have b1 : decide ((m : Int) < 1) = false := decide_eq_false (by omega)
    have b2 : decide ((10 : Int) < m) = false := decide_eq_false (by omega)
    have b3 : decide ((u : Int) < 0) = false := decide_eq_false (by omega)
    have b4 : decide ((10 : Int) < u) = false := decide_eq_false (by omega)
    have hm10 : m ≤ 10 := by omega
    have hm1 : 1 ≤ m := by omega
    have hu10 : u ≤ 10 := by omega
    have HO := Lib.hid (most_ok (m := m) (u := u) (by omega) (by omega) (by omega))
    have hcv := conv_byte
    have hcv2 := conv_byte2
    clear h0 h1 hr
    go_enter Tryz.func5, Tryz.ntmps5
    go_wp2_with fail
    refine HH.out.mono ?_
    rintro e w1 ⟨rfl, hb1⟩
    have HB1 := Lib.hid hb1
    clear hb1
    go_wp2_with fail
    go_loopw [5, 27] (fun sv i wr => ∃ (k : Nat) (s : ByteArray), k ≤ m ∧ i = .int .i64 k ∧ sv = .string s ∧ s.data.toList = (List.range k).flatMap modL ∧ s.size ≤ 200 ∧ Below w.heap.size w wr) (fun _ i _ => m - (intOf i).toNat)
    case atStart => exact ⟨0, ⟨#[]⟩, by omega, rfl, rfl, rfl, by decide, HB1.out⟩
    case round =>
      obtain ⟨k, s, hk, rfl, rfl, hs, hsz, hbw⟩ := hrel
      obtain ⟨wk, rfl⟩ : ∃ W, W = wr := ⟨wr, rfl⟩
      have HS := Lib.hid hs
      have HB := Lib.hid hbw
      clear hs hbw
      by_cases hlt : k < m
      · have hk11 : k < 11 := by omega
        have HX := Lib.hid (nums_one k hk11)
        have HR := Lib.hid (range_flat modL k)
        have HLN := Lib.hid (mods_len (k + 1))
        have hzk : (strOfNums [97 + (k : Int)]).size = 1 := by rw [strOfNums_size]; rfl
        go_wp2_with fail
        · refine ⟨⟨k + 1, _, by omega, by go_num, rfl, ?_, ?_, ?_⟩, ?_⟩
          · rw [HR.out, ← HS.out]
            simp [ByteArray.data_append, HX.out, modL]
          · rw [← size_len]
            have := HLN.out
            rw [HR.out, ← HS.out] at this
            simp only [ByteArray.data_append, Array.toList_append, HX.out, List.length_append] at this ⊢
            simp [modL] at this ⊢
            omega
          · exact below_from HB.out (below_two wk _ _)
          · simp [intOf]; omega
      · obtain rfl : k = m := by omega
        have HS1 := HS
        have hsz1 := hsz
        go_wp2_with fail
        go_loopw [5, 48] (fun sv i wr => ∃ (j : Nat) (t : ByteArray), j ≤ u ∧ i = .int .i64 j ∧ sv = .string t ∧ t.data.toList = s.data.toList ++ (List.range j).flatMap usrL ∧ t.size ≤ 400 ∧ Below w.heap.size w wr) (fun _ i _ => u - (intOf i).toNat)
        case atStart => exact ⟨0, s, by omega, rfl, rfl, by simp, by omega, HB.out⟩
        case round =>
          obtain ⟨j, t, hj, rfl, rfl, ht, htz, hbj⟩ := hrel
          obtain ⟨wj, rfl⟩ : ∃ W, W = wr := ⟨wr, rfl⟩
          have HT := Lib.hid ht
          have HBJ := Lib.hid hbj
          clear ht hbj
          by_cases hjl : j < u
          · have hj11 : j < 11 := by omega
            have HX := Lib.hid (nums_one j hj11)
            have HR := Lib.hid (range_flat usrL j)
            have HLN := Lib.hid (usrs_len (j + 1))
            have hzk : (strOfNums [97 + (j : Int)]).size = 1 := by rw [strOfNums_size]; rfl
            go_wp2_with fail
            · refine ⟨⟨j + 1, _, by omega, by go_num, rfl, ?_, ?_, ?_⟩, ?_⟩
              · rw [HR.out, ← List.append_assoc, ← HT.out]
                simp [ByteArray.data_append, HX.out, usrL]
              · rw [← size_len]
                have h1 := HLN.out
                have h2 := HT.out
                rw [HR.out] at h1
                simp only [ByteArray.data_append, Array.toList_append, HX.out, List.length_append, h2] at h1 ⊢
                simp [usrL] at h1 ⊢
                omega
              · exact below_from HBJ.out (below_one wj _)
              · simp [intOf]; omega
          · obtain rfl : j = u := by omega
            have htx : t = bA (mostL k j) := by
              rw [← bA_self t, HT.out, HS.out]; rfl
            have HTX := Lib.hid htx
            have HP := Lib.hid (cparse_any t wj (by omega) (HG.out.below HBJ.out))
            rcases most_out HO.out with ⟨ms, hp, h8, hu8, hml, hmu⟩ | ⟨p, ms, hp, hc⟩
            · rw [← htx] at hp
              have d1 : decide ((8 : Int) < k) = false := decide_eq_false (by omega)
              have d2 : decide ((8 : Int) < j) = false := decide_eq_false (by omega)
              clear htx
              go_wp2_with fail
              refine HP.out.mono ?_
              intro e w5 hpp
              obtain ⟨hb5, A, c, q, hq, rfl, hmod⟩ := parse_right hpp hp
              clear hpp
              have hql : q.length = k := by
                have := congrArg List.length hq
                rw [List.length_map, hml] at this
                exact this
              have hkp : k - 1 < q.length := by omega
              have hb6 := below_one w5 (.cells #[.slice A q.length c] 25)
              have hn6 := heap_alloc_new w5 (.cells #[.slice A q.length c] 25)
              obtain ⟨A2, c2, e2, _, hcell⟩ := (hmod.below hb6).at_
              injection e2 with e2 _ e3
              subst e2 e3
              obtain ⟨b, off, rfl, x1, x2, x3, x4, x5, x6⟩ := hcell (k - 1) hkp
              obtain ⟨Au, cu, huv, _⟩ := (hmod.us q[k - 1] (List.getElem_mem hkp)).slice
              have hus : q[k - 1].md.us.length = j := by
                have h9 : ms.getLast? = some q[k - 1].md := by
                  rw [← hq, List.getLast?_map, List.getLast?_eq_getElem?, hql, List.getElem?_eq_getElem hkp]
                  rfl
                rw [h9] at hmu
                simpa using hmu
              rw [huv, hus] at x6
              have HB6 := Lib.hid (below_from HBJ.out (below_from hb5 hb6))
              rw [hql] at hn6 HB6 x6 hkp ⊢
              have y0 : (w5.alloc (.cells #[.slice (some ⟨b, off, none⟩) k c] 25)).cell? ⟨w5.heap.size, 0, none⟩ = some (.slice (some ⟨b, off, none⟩) k c) := by rw [cell_of_row _ _ 0 _ _ _ hn6]; rfl
              clear hb5 hb6 hn6 hcell x1 x2 x3 x4 x5 hmod hq hp
              go_wp2_with fail
              go_ret
              exact ⟨rfl, HB6.out⟩
            · rw [← htx] at hp
              clear htx
              have hne : GErr.fault p 3 ≠ .nil := by intro h; cases h
              rcases hc with ⟨h8, rfl⟩ | ⟨h8, hu8, rfl⟩
              · have d1 : decide ((8 : Int) < k) = true := decide_eq_true (by omega)
                go_wp2_with fail
                refine HP.out.mono ?_
                intro e w5 hpp
                obtain ⟨hb5, t5, u5, rfl, hev⟩ := parse_bad hpp hp hne
                have hb6 := below_one w5 (.cells #[.slice none 0 0] 25)
                have HB6 := Lib.hid (below_from HBJ.out (below_from hb5 hb6))
                have HEV := Lib.hid (hev.below hb6)
                have HNU := Lib.hid (number (.iface t5 u5) (.fault 16 3) _ HEV.out (HG.out.below HB6.out).env)
                clear hpp hp hb5 hb6 hev hne
                go_wp2_with fail
                refine HNU.out.mono ?_
                rintro e w7 ⟨rfl, hb7⟩
                have HB7 := Lib.hid (below_from HB6.out hb7)
                have HPL := Lib.hid (place (.iface t5 u5) (.fault 16 3) w7 (HEV.out.below hb7) (HG.out.below HB7.out).env)
                clear hb7
                simp only [GErr.num]
                go_wp2_with fail
                refine HPL.out.mono ?_
                rintro e w8 ⟨rfl, hb8⟩
                have HB8 := Lib.hid (below_from HB7.out hb8)
                clear hb8
                simp only [GErr.place]
                go_wp2_with fail
                go_ret
                exact ⟨rfl, HB8.out⟩
              · have d1 : decide ((8 : Int) < k) = false := decide_eq_false (by omega)
                have d2 : decide ((8 : Int) < j) = true := decide_eq_true (by omega)
                go_wp2_with fail
                refine HP.out.mono ?_
                intro e w5 hpp
                obtain ⟨hb5, t5, u5, rfl, hev⟩ := parse_bad hpp hp hne
                have hb6 := below_one w5 (.cells #[.slice none 0 0] 25)
                have HB6 := Lib.hid (below_from HBJ.out (below_from hb5 hb6))
                have HEV := Lib.hid (hev.below hb6)
                have HNU := Lib.hid (number (.iface t5 u5) (.fault (2 * (k : Int) + 8) 3) _ HEV.out (HG.out.below HB6.out).env)
                clear hpp hp hb5 hb6 hev hne
                go_wp2_with fail
                refine HNU.out.mono ?_
                rintro e w7 ⟨rfl, hb7⟩
                have HB7 := Lib.hid (below_from HB6.out hb7)
                have HPL := Lib.hid (place (.iface t5 u5) (.fault (2 * (k : Int) + 8) 3) w7 (HEV.out.below hb7) (HG.out.below HB7.out).env)
                clear hb7
                simp only [GErr.num]
                go_wp2_with fail
                refine HPL.out.mono ?_
                rintro e w8 ⟨rfl, hb8⟩
                have HB8 := Lib.hid (below_from HB7.out hb8)
                have heq : ((2 * (k : Int) + 8) == (2 * (k : Int) + 8)) = true := beq_self_eq_true _
                clear hb8
                simp only [GErr.place]
                go_wp2_with fail
                go_ret
                exact ⟨rfl, HB8.out⟩
  · have hcs : (a0 < 1) ∨ (¬ a0 < 1 ∧ 10 < a0) ∨ (¬ a0 < 1 ∧ ¬ 10 < a0 ∧ a1 < 0) ∨ (¬ a0 < 1 ∧ ¬ 10 < a0 ∧ ¬ a1 < 0 ∧ 10 < a1) := by omega
    clear hr
    rcases hcs with c1 | ⟨c1, c2⟩ | ⟨c1, c2, c3⟩ | ⟨c1, c2, c3, c4⟩
    all_goals (
      go_enter Tryz.func5, Tryz.ntmps5
      go_wp2_with fail
      refine HH.out.mono ?_
      rintro e w1 ⟨rfl, hb1⟩
      have HB1 := Lib.hid hb1
      clear hb1
      go_wp2_with fail
      go_ret
      exact ⟨rfl, HB1.out⟩)
end Go.Proofs.YtddnfooachibiaaGreatDoor
