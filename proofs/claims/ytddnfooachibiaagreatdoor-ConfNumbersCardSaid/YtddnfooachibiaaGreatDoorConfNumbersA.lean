/-
  The law ConfNumbers, walked (printed by wip/tools/gen_confnum.py).
-/
import Derived.Test.YtddnfooachibiaaGreatDoorConfMostW
set_option linter.unusedVariables false
set_option linter.unusedSimpArgs false
namespace Go.Proofs.YtddnfooachibiaaGreatDoor
open Go.RowKit Go.Maps Go.WideMaps Go.WideAt
/-- May a text of this size and beginning be a number? -/
def goodB (s : ByteArray) : Bool := decide (s.size ≠ 0) && decide (s.size ≤ 6) && (decide (s.data.toList.head? ≠ some 48) || decide (s.size = 1))
theorem good_num {s : ByteArray} (h : goodB s = true) (ha : s.data.toList.all digU = true) : numB s = (digV 0 s.data.toList : Int) := by
  simp only [goodB, Bool.and_eq_true, Bool.or_eq_true, decide_eq_true_eq] at h
  have hl : s.data.toList.length = s.size := by simp
  rw [numB, if_neg]
  rintro (e | e | ⟨e1, e2⟩ | e)
  · exact h.1.1 (by rw [← hl, e]; rfl)
  · omega
  · rcases h.2 with h2 | h2
    · exact h2 e1
    · omega
  · rw [ha] at e; cases e
theorem good_not {s : ByteArray} (h : (goodB s && s.data.toList.all digU) = false) : numB s = -1 := by
  have hl : s.data.toList.length = s.size := by simp
  rw [numB, if_pos]
  by_cases ha : s.data.toList.all digU = true
  · rw [ha, Bool.and_true] at h
    by_cases h0 : s.size = 0
    · exact .inl (none_of h0)
    · by_cases h6 : 6 < s.size
      · exact .inr (.inl (by omega))
      · refine .inr (.inr (.inl ?_))
        simp only [goodB, Bool.and_eq_false_iff, Bool.or_eq_false_iff, decide_eq_false_iff_not] at h
        rcases h with (h | h) | ⟨h1, h2⟩
        · exact absurd h0 (by simpa using h)
        · omega
        · exact ⟨by simpa using h1, by omega⟩
  · exact .inr (.inr (.inr (by simpa using ha)))
theorem all_dig (s : ByteArray) (k : Nat) (hk : k < s.size) : (s.data.toList.take (k + 1)).all digU = ((s.data.toList.take k).all digU && digU s[k]) := by
  rw [List.take_succ_eq_append_getElem (by simpa using hk), List.all_append, List.all_cons, List.all_nil, Bool.and_true]
  rfl
theorem not_snoc {s : ByteArray} {k : Nat} (hk : k < s.size) {c : UInt8} (h : c ∉ s.data.toList.take k) (e : s[k] ≠ c) : c ∉ s.data.toList.take (k + 1) := by
  rw [List.take_succ_eq_append_getElem (by simpa using hk)]
  intro hm
  rcases List.mem_append.1 hm with hm | hm
  · exact h hm
  · exact e (List.mem_singleton.1 hm).symm
theorem dig_no {c : UInt8} (h : digU c = true) : c ≠ 32 ∧ c ≠ 10 := by
  obtain ⟨h1, h2⟩ := (digU_iff c).1 h
  constructor <;> (rintro rfl; simp at h1)
set_option maxRecDepth 100000 in
set_option maxHeartbeats 4000000 in
theorem num_slots (s : ByteArray) (w : World) (hs : s.size ≤ 140737488351232) (hg : EnvC w) : Calls Tryz.prog 6 #[.string s, .bool true] w fun e w' => e = .returned (.bool true) ∧ Below w.heap.size w w' := by
  have HH := Lib.hid (parses_any w hg)
  have HG := Lib.hid hg
  clear hg
  by_cases hbig : 20 < s.size
  · have hi : (20 : Int) < s.size := by omega
    go_enter Tryz.func6, Tryz.ntmps6
    go_wp2_with fail
    refine HH.out.mono ?_
    rintro e w1 ⟨rfl, hb1⟩
    have HB1 := Lib.hid hb1
    clear hb1
    go_wp2_with fail
    go_ret
    exact ⟨rfl, HB1.out⟩
  · have hi : ¬ (20 : Int) < s.size := by omega
    have hs20 : s.size ≤ 20 := by omega
    have hcase : (s.toList.isEmpty = true ∧ s.toList.isEmpty = true ∧ goodB s = false) ∨ (s.toList.isEmpty = false ∧ decide ((s.size : Int) ≤ 6) = false ∧ 6 < s.size ∧ goodB s = false) ∨
        (s.toList.isEmpty = false ∧ decide ((s.size : Int) ≤ 6) = true ∧ ∃ h : 0 < s.size, ((s[0].toNat : Int) != 48) = true ∧ goodB s = true) ∨
        (s.toList.isEmpty = false ∧ decide ((s.size : Int) ≤ 6) = true ∧ ∃ h : 0 < s.size, ((s[0].toNat : Int) != 48) = false ∧ ((s.size : Int) == 1) = true ∧ goodB s = true) ∨
        (s.toList.isEmpty = false ∧ decide ((s.size : Int) ≤ 6) = true ∧ ∃ h : 0 < s.size, ((s[0].toNat : Int) != 48) = false ∧ ((s.size : Int) == 1) = false ∧ goodB s = false) := by
      by_cases h0 : s.size = 0
      · exact .inl ⟨empty_of h0, empty_of h0, by simp [goodB, h0]⟩
      · by_cases h6 : 6 < s.size
        · exact .inr (.inl ⟨some_of h0, decide_eq_false (by omega), h6, by simp [goodB]; intro _ h; omega⟩)
        · have hp : 0 < s.size := by omega
          have hh := head_at hp
          by_cases e : s[0] = 48
          · have b48 : ((s[0].toNat : Int) != 48) = false := by rw [e]; rfl
            by_cases h1 : s.size = 1
            · exact .inr (.inr (.inr (.inl ⟨some_of h0, decide_eq_true (by omega), hp, b48, by rw [beq_iff_eq]; omega, by simp [goodB, h1]⟩)))
            · exact .inr (.inr (.inr (.inr ⟨some_of h0, decide_eq_true (by omega), hp, b48, by rw [beq_eq_false_iff_ne]; omega, by rw [goodB, hh, e]; simp [h1]⟩)))
          · have b48 : ((s[0].toNat : Int) != 48) = true := by
              rw [bne_iff_ne]
              intro h
              exact e (UInt8.toNat_inj.1 (by simp; omega))
            exact .inr (.inr (.inl ⟨some_of h0, decide_eq_true (by omega), hp, b48, by rw [goodB, hh, decide_eq_true h0, decide_eq_true (show s.size ≤ 6 by omega), decide_eq_true (show some s[0] ≠ some 48 from fun h => e (Option.some.inj h))]; rfl⟩))
    clear hs hbig
    rcases hcase with ⟨q1, q2, hgd⟩ | ⟨q1, q2, q3, hgd⟩ | ⟨q1, q2, q3, q4, hgd⟩ | ⟨q1, q2, q3, q4, q5, hgd⟩ | ⟨q1, q2, q3, q4, q5, hgd⟩
    all_goals (
      have HGD := Lib.hid hgd
      clear hgd
      go_enter Tryz.func6, Tryz.ntmps6
      go_wp2_with fail
      refine HH.out.mono ?_
      rintro e w1 ⟨rfl, hb1⟩
      have HB1 := Lib.hid hb1
      clear hb1
      go_wp2_with fail
      clear q1 q2
      go_loop [8, 9, 38] (fun n g i => ∃ (k d : Nat) (gk : Bool), k ≤ s.size ∧ i = .int .i64 k ∧ n = .int .i64 d ∧ g = .bool gk ∧ gk = (goodB s && (s.data.toList.take k).all digU) ∧ d < 1000000 ∧ (gk = true → s.size ≤ 6 ∧ d = digV 0 (s.data.toList.take k) ∧ d < 10 ^ k) ∧ (32 : UInt8) ∉ s.data.toList.take k ∧ (10 : UInt8) ∉ s.data.toList.take k) (fun _ _ i => s.size - (intOf i).toNat)
      case atStart => exact ⟨0, 0, _, by omega, rfl, rfl, rfl, (by rw [HGD.out]; rfl), by omega, (fun h => by first | (exact absurd h (by decide)) | (refine ⟨?_, rfl, by decide⟩; have hq := HGD.out; simp only [goodB, Bool.and_eq_true, decide_eq_true_eq] at hq; exact hq.1.2)), by simp, by simp⟩
      case round =>
        obtain ⟨k, d, gk, hk, rfl, rfl, rfl, hgk, hd6, hdv, h32, h10⟩ := hrel
        have HGK := Lib.hid hgk
        have HDV := Lib.hid hdv
        have H32 := Lib.hid h32
        have H10 := Lib.hid h10
        clear hgk hdv h32 h10
        by_cases hp : k < s.size
        · have HAD := Lib.hid (all_dig s k hp)
          by_cases e32 : s[k] = 32
          · have b32 : ((s[k].toNat : Int) == 32) = true := by rw [beq_iff_eq, e32]; rfl
            have d1 : decide ((48 : Int) ≤ s[k].toNat) = false := by rw [e32]; rfl
            clear e32
            cases gk
            all_goals (
              go_wp2_with fail
              go_ret
              exact ⟨rfl, HB1.out⟩)
          · have b32 : ((s[k].toNat : Int) == 32) = false := by rw [beq_eq_false_iff_ne]; intro h; exact e32 (UInt8.toNat_inj.1 (by simp; omega))
            by_cases e10 : s[k] = 10
            · have b10 : ((s[k].toNat : Int) == 10) = true := by rw [beq_iff_eq, e10]; rfl
              have d1 : decide ((48 : Int) ≤ s[k].toNat) = false := by rw [e10]; rfl
              clear e10 e32
              cases gk
              all_goals (
                go_wp2_with fail
                go_ret
                exact ⟨rfl, HB1.out⟩)
            · have b10 : ((s[k].toNat : Int) == 10) = false := by rw [beq_eq_false_iff_ne]; intro h; exact e10 (UInt8.toNat_inj.1 (by simp; omega))
              have HN32 := Lib.hid (not_snoc hp H32.out e32)
              have HN10 := Lib.hid (not_snoc hp H10.out e10)
              clear e32 e10
              cases gk with
              | false =>
                have HGN : Hid (false = (goodB s && (s.data.toList.take (k + 1)).all digU)) := Lib.hid (by rw [HAD.out, ← Bool.and_assoc, ← HGK.out]; rfl)
                go_wp2_with fail
                go_round
                case rel => exact ⟨k + 1, d, false, by omega, by go_num, rfl, rfl, HGN.out, hd6, (fun h => by cases h), HN32.out, HN10.out⟩
                case measure => simp [intOf]; omega
              | true =>
                obtain ⟨h6, hdd, hd10⟩ := HDV.out rfl
                have HDD := Lib.hid hdd
                have h105 : 10 ^ k ≤ 10 ^ 5 := Nat.pow_le_pow_right (by decide) (by omega)
                have hd5 : d < 100000 := by have : (10 : Nat) ^ 5 = 100000 := by decide
                                            omega
                cases hc : digU s[k] with
                | true =>
                  obtain ⟨t1, t2⟩ := (digU_iff s[k]).1 hc
                  have b3 : decide ((48 : Int) ≤ s[k].toNat) = true := decide_eq_true t1
                  have b4 : decide ((s[k].toNat : Int) ≤ 57) = true := decide_eq_true t2
                  have HGN : Hid (true = (goodB s && (s.data.toList.take (k + 1)).all digU)) := Lib.hid (by rw [HAD.out, ← Bool.and_assoc, ← HGK.out, hc]; rfl)
                  have HV := Lib.hid (digV_take hp)
                  rw [← HDD.out] at HV
                  have H10P : Hid (d * 10 + (s[k].toNat - 48) < 10 ^ (k + 1)) := Lib.hid (by rw [Nat.pow_succ]; omega)
                  have hz : d * 10 + (s[k].toNat - 48) < 1000000 := by omega
                  clear hc hdd hd10 h105
                  go_wp2_with fail
                  go_round
                  case rel => exact ⟨k + 1, d * 10 + (s[k].toNat - 48), true, by omega, by go_num, by go_num, rfl, HGN.out, hz, (fun _ => ⟨h6, HV.out.symm, H10P.out⟩), HN32.out, HN10.out⟩
                  case measure => simp [intOf]; omega
                | false =>
                  have hno := mt (digU_iff s[k]).2 (Bool.eq_false_iff.1 hc)
                  have HGN : Hid (false = (goodB s && (s.data.toList.take (k + 1)).all digU)) := Lib.hid (by rw [HAD.out, ← Bool.and_assoc, ← HGK.out, hc]; rfl)
                  have h4 : decide ((48 : Int) ≤ s[k].toNat) = false ∨ (decide ((48 : Int) ≤ s[k].toNat) = true ∧ decide ((s[k].toNat : Int) ≤ 57) = false) := by
                    by_cases h : (48 : Int) ≤ s[k].toNat
                    · exact .inr ⟨decide_eq_true h, decide_eq_false (by omega)⟩
                    · exact .inl (decide_eq_false h)
                  clear hc hno hdd hd10 h105
                  rcases h4 with h | ⟨h, h'⟩
                  all_goals (
                    go_wp2_with fail
                    go_round
                    case rel => exact ⟨k + 1, d, false, by omega, by go_num, rfl, rfl, HGN.out, hd6, (fun h => by cases h), HN32.out, HN10.out⟩
                    case measure => simp [intOf]; omega)
        · obtain rfl : k = s.size := by omega
          have HTK : Hid (s.data.toList.take s.size = s.data.toList) := Lib.hid (List.take_of_length_le (by simp))
          rw [HTK.out] at HGK HDV H32 H10
          obtain ⟨gn, hgn⟩ : ∃ g : Bool, g = decide (1 ≤ numB s ∧ numB s ≤ 16) := ⟨_, rfl⟩
          have hend : (gk = false ∧ gn = false) ∨ (gk = true ∧ numB s = (d : Int) ∧ ((decide ((1 : Int) ≤ d) = false ∧ gn = false) ∨ (decide ((1 : Int) ≤ d) = true ∧ decide ((d : Int) ≤ 16) = gn))) := by
            cases hgk : gk with
            | false =>
              refine .inl ⟨rfl, ?_⟩
              rw [hgn, good_not (by rw [← HGK.out]; exact hgk)]
              rfl
            | true =>
              have h1 := HGK.out
              rw [hgk] at h1
              have h2 := h1.symm
              rw [Bool.and_eq_true] at h2
              have hn : numB s = (d : Int) := by rw [good_num h2.1 h2.2, ← (HDV.out hgk).2.1]
              refine .inr ⟨rfl, hn, ?_⟩
              by_cases hlo : (1 : Int) ≤ d
              · refine .inr ⟨decide_eq_true hlo, ?_⟩
                rw [hgn, hn]
                simp [hlo]
              · refine .inl ⟨decide_eq_false hlo, ?_⟩
                rw [hgn, hn]
                simp [hlo]
          obtain ⟨tx, htx⟩ : ∃ t, t = bA (headN true ++ 32 :: 61 :: 32 :: s.data.toList) := ⟨_, rfl⟩
          have hpz : tx.size ≤ 100 := by rw [htx, bA_size]; simp [headN]; omega
          have HPN := Lib.hid (parse_num true s.data.toList H32.out H10.out (by simp; omega))
          rw [← htx, bA_self] at HPN
          have HTX : Hid ((⟨#[91, 97, 93, 10, 114, 111, 111, 116, 32, 61, 32, 114, 10]⟩ : ByteArray) ++ ⟨#[115, 108, 111, 116, 115]⟩ ++ ⟨#[32, 61, 32]⟩ ++ s = tx) := Lib.hid (by
            rw [htx]
            refine (bA_eq.2 ?_).symm
            simp [headN, ByteArray.data_append])
          have HCP := Lib.hid (cparse_any tx w1 (by omega) (HG.out.below HB1.out))
          have HGN := Lib.hid hgn
          clear htx hgn
          cases gn with
          | false =>
            have hp0 : parseC tx = (.fault 2 130, []) := by
              rw [HPN.out, if_neg]
              have := of_decide_eq_false HGN.out.symm
              simpa [inN] using this
            have HP0 := Lib.hid hp0
            clear hp0
            rcases hend with ⟨rfl, _⟩ | ⟨rfl, _, ⟨h1, _⟩ | ⟨h1, h2⟩⟩
            all_goals first | (exfalso; have hq := of_decide_eq_false h1; omega) | (
              go_wp2_with fail
              all_goals (
                first | rw [HTX.out] | skip
                refine HCP.out.mono ?_
                intro e w5 hpp
                obtain ⟨hb5, t5, u5, rfl, hev⟩ := parse_bad hpp HP0.out (by intro h; cases h)
                have hb6 := below_one w5 (.cells #[.slice none 0 0] 25)
                have HB6 := Lib.hid (below_from HB1.out (below_from hb5 hb6))
                have HEV := Lib.hid (hev.below hb6)
                have HNU := Lib.hid (number (.iface t5 u5) (.fault 2 130) _ HEV.out (HG.out.below HB6.out).env)
                clear hpp hb5 hb6 hev
                go_wp2_with fail
                refine HNU.out.mono ?_
                rintro e w7 ⟨rfl, hb7⟩
                have HB7 := Lib.hid (below_from HB6.out hb7)
                have HPL := Lib.hid (place (.iface t5 u5) (.fault 2 130) w7 (HEV.out.below hb7) (HG.out.below HB7.out).env)
                clear hb7
                simp only [GErr.num]
                go_wp2_with fail
                refine HPL.out.mono ?_
                rintro e w8 ⟨rfl, hb8⟩
                have HB8 := Lib.hid (below_from HB7.out hb8)
                clear hb8
                simp only [GErr.place]
                go_wp2_with fail
                go_ret
                exact ⟨rfl, HB8.out⟩))
          | true =>
            rcases hend with ⟨_, h⟩ | ⟨rfl, hn, ⟨_, h⟩ | ⟨h1, h2⟩⟩
            · cases h
            · cases h
            · have hp0 : parseC tx = (.nil, [oneC true d]) := by
                rw [HPN.out, hn, if_pos]
                have := of_decide_eq_true HGN.out.symm
                rw [hn] at this
                simpa [inN] using this
              have HP0 := Lib.hid hp0
              clear hp0 hn
              go_wp2_with fail
              first | rw [HTX.out] | skip
              refine HCP.out.mono ?_
              intro e w5 hpp
              obtain ⟨hb5, A, c, q, hq, rfl, hmod⟩ := parse_right hpp HP0.out
              clear hpp
              obtain ⟨r, rfl, hr⟩ := one_of hq
              have hb6 := below_one w5 (.cells #[.slice A 1 c] 25)
              have hn6 := heap_alloc_new w5 (.cells #[.slice A 1 c] 25)
              obtain ⟨A2, c2, e2, _, hcell⟩ := (hmod.below hb6).at_
              injection e2 with e2 _ e3
              subst e2 e3
              obtain ⟨b, off, rfl, x1, x2, x3, x4, x5, x6⟩ := hcell 0 (by simp)
              simp only [List.getElem_cons_zero, hr, oneC, Nat.zero_mul, Nat.add_zero] at x1 x2 x3 x4 x5 x6
              have HB6 := Lib.hid (below_from HB1.out (below_from hb5 hb6))
              have y0 : (w5.alloc (.cells #[.slice (some ⟨b, off, none⟩) 1 c] 25)).cell? ⟨w5.heap.size, 0, none⟩ = some (.slice (some ⟨b, off, none⟩) 1 c) := by rw [cell_of_row _ _ 0 _ _ _ hn6]; rfl
              replace x4 : (w5.alloc (.cells #[.slice (some ⟨b, off, none⟩) 1 c] 25)).cell? ⟨b, off + 3, none⟩ = some (.int .i64 d) := x4
              have hdd : ((d : Int) == (d : Int)) = true := beq_self_eq_true _
              clear hb5 hb6 hn6 hcell hmod hq
              simp only [List.length_singleton]
              go_wp2_with fail
              go_ret
              exact ⟨rfl, HB6.out⟩)
end Go.Proofs.YtddnfooachibiaaGreatDoor
