/-
  The law ConfLines holds for every input: the row and its card, out of the walk; taking of the package-level variables just what the card ties.
-/
import Derived.Test.YtddnfooachibiaaGreatDoorConfTextW
import Derived.Test.YtddnfooachibiaaGreatDoorConfParsesW
import Derived.Test.YtddnfooachibiaaGreatDoorCards
import Derived.Test.YtddnfooachibiaaGreatDoorTie
import Derived.Test.YtddnfooachibiaaGreatDoorRowKitC
import Derived.SevenTiedAt
import Derived.SizedLaws
set_option linter.unusedVariables false
set_option linter.unusedSimpArgs false
namespace Go.Proofs.YtddnfooachibiaaGreatDoor
open Go.RowKit Go.Maps Go.WideMaps Go.WideAt
theorem parseL_lt : ∀ (L : List (List UInt8)) (i : Nat) (st : StC) {k : Nat} {e : Int}, parseL i st L = .error (k, e) → k < i + L.length
  | [], i, st, k, e, h => by cases h
  | l :: r, i, st, k, e, h => by
    rw [parseL] at h
    cases hl : lineC st l with
    | error x =>
      rw [hl] at h
      injection h with h
      injection h with h _
      rw [← h, List.length_cons]; omega
    | ok st' =>
      rw [hl] at h
      have := parseL_lt r (i + 1) st' h
      rw [List.length_cons]; omega
theorem ahead_two (n : Nat) (s : ByteArray) (h : (aheadL n).length + s.size ≤ 8192) :
    (∃ ms, parseC s = (.nil, ms) ∧ parseC (bA (aheadL n ++ s.data.toList)) = (.nil, ms)) ∨
    (∃ p p2 x, parseC s = (.fault p x, []) ∧ parseC (bA (aheadL n ++ s.data.toList)) = (.fault p2 x, []) ∧ (p2 = p ∨ (p2 = p + n ∧ 0 ≤ p ∧ p ≤ 9000))) := by
  have hs : ¬ 8192 < s.size := by omega
  rw [parse_ahead n s h]
  cases hp : parseL 0 ⟨[], []⟩ (linesL s.data.toList) with
  | error ie =>
    obtain ⟨i, e⟩ := ie
    have h1 := parseL_lt _ _ _ hp
    have h2 := linesL_many s.data.toList
    rw [size_len] at h2
    refine .inr ⟨i, (i + n : Nat), e, ?_, rfl, .inr ⟨by simp, by omega, by omega⟩⟩
    unfold parseC
    rw [if_neg hs, hp]
  | ok st =>
    rcases whole_form st.ms 0 [] with hw | ⟨p, x, hw⟩
    · have := parseC_ok (by omega) hp hw
      exact .inl ⟨st.ms, this, this⟩
    · have := parseC_whole (by omega) hp hw (by intro h; cases h)
      exact .inr ⟨p, p, x, this, this, .inl rfl⟩
theorem rparse_fault {s : ByteArray} {p x : Int} {w w' : World} {e : Ending} (h : RParsePost s w e w') (hp : parseC s = (.fault p x, [])) : Below w.heap.size w w' ∧ e = .returned (.tuple #[.slice none 0 0, .int .i64 x, .int .i64 p]) := by
  obtain ⟨hb, ⟨A, c, q, h1, _, _⟩ | ⟨p', x', h1, _, h2⟩⟩ := h
  · rw [hp] at h1
    injection h1 with h1 _
    cases h1
  · rw [hp] at h1
    injection h1 with h1 _
    injection h1 with h3 h4
    subst h3 h4
    exact ⟨hb, h2⟩
theorem ahead_len : ∀ k, (aheadL k).length ≤ 12 * k
  | 0 => by simp [aheadL]
  | k + 1 => by
    have := ahead_len k
    have h2 : (blankL k).length ≤ 11 := by unfold blankL; split <;> simp
    simp [aheadL]; omega
theorem app_bA (x y : ByteArray) {l : List UInt8} (h : x.data.toList = l) : x ++ y = bA (l ++ y.data.toList) := by
  rw [← bA_self (x ++ y), ByteArray.data_append, Array.toList_append, h]
set_option maxRecDepth 100000 in
set_option maxHeartbeats 2000000 in
theorem confLines_walk (s : ByteArray) (f : Int) (w : World) (hs : s.size ≤ 140737488351232) (hf : (Lit.int .i64 f).wf = true) (hg : EnvC w) : Calls Tryz.prog 8 #[.string s, .int .i64 f] w fun e w' => e = .returned (.bool true) ∧ Below w.heap.size w w' := by
  have HH := Lib.hid (parses_any w hg)
  have HG := Lib.hid hg
  clear hg
  by_cases hr : (0 ≤ f ∧ f ≤ 20) ∧ s.size ≤ 8000
  · obtain ⟨n, rfl⟩ : ∃ n : Nat, f = (n : Int) := ⟨f.toNat, by omega⟩
    have b1 : decide ((n : Int) < 0) = false := decide_eq_false (by omega)
    have b2 : decide ((20 : Int) < n) = false := decide_eq_false (by omega)
    have b3 : decide ((8000 : Int) < s.size) = false := decide_eq_false (by omega)
    have hn20 : n ≤ 20 := by omega
    have hs8 : s.size ≤ 8000 := hr.2
    clear hr hf hs
    go_enter Tryz.func8, Tryz.ntmps8
    go_wp2_with fail
    refine HH.out.mono ?_
    rintro e w1 ⟨rfl, hb1⟩
    have HB1 := Lib.hid hb1
    clear hb1
    go_wp2_with fail
    go_loopw [5, 6, 32] (fun sv _ i wr => ∃ (k : Nat) (t : ByteArray), k ≤ n ∧ i = .int .i64 k ∧ sv = .string t ∧ t.data.toList = aheadL k ∧ t.size ≤ 240 ∧ wr = w1) (fun _ _ i _ => n - (intOf i).toNat)
    case atStart => exact ⟨0, ⟨#[]⟩, by omega, rfl, rfl, rfl, by decide, rfl⟩
    case round =>
      obtain ⟨k, t, hk, rfl, rfl, ht, htz, hwr⟩ := hrel
      replace hwr := hwr.symm
      subst hwr
      have HT := Lib.hid ht
      clear ht
      by_cases hlt : k < n
      · have HLN := Lib.hid (ahead_len (k + 1))
        have hkz : ∀ u : ByteArray, u.data.toList = aheadL (k + 1) → u.size ≤ 240 := fun u hu => by
          have h1 := HLN.out
          rw [← hu, size_len] at h1
          omega
        have HKZ := Lib.hid hkz
        clear hkz
        by_cases hp : k % 2 = 0
        · have bp : (((k : Int) % 2) == 0) = true := by rw [beq_iff_eq]; omega
          have HP := Lib.hid hp
          have hq : ((t ++ ⟨#[32, 32, 35, 32, 120, 32, 61, 32, 91, 121, 93, 10]⟩ : ByteArray)).data.toList = aheadL (k + 1) := by
            simp [ByteArray.data_append, aheadL, blankL, HT.out, hp]
          have HQ := Lib.hid hq
          clear hq hp
          go_wp2_with fail
          go_roundw
          case rel => exact ⟨k + 1, _, by omega, by go_num, rfl, HQ.out, HKZ.out _ HQ.out, (by first | exact True.intro | rfl)⟩
          case measure => simp [intOf]; omega
        · have bp : (((k : Int) % 2) == 0) = false := by rw [beq_eq_false_iff_ne]; omega
          have HP := Lib.hid hp
          have hq : ((t ++ ⟨#[32, 32, 32, 10]⟩ : ByteArray)).data.toList = aheadL (k + 1) := by
            simp [ByteArray.data_append, aheadL, blankL, HT.out, hp]
          have HQ := Lib.hid hq
          clear hq hp
          go_wp2_with fail
          go_roundw
          case rel => exact ⟨k + 1, _, by omega, by go_num, rfl, HQ.out, HKZ.out _ HQ.out, (by first | exact True.intro | rfl)⟩
          case measure => simp [intOf]; omega
      · obtain rfl : k = n := by omega
        have hw1 : IntKind.i64.wrap ((t.size : Int) + s.size) = (t.size : Int) + s.size := IntWalk.i64_in _ (by omega)
        by_cases hbig : 8192 < t.size + s.size
        · have hbi : (8192 : Int) < (t.size : Int) + s.size := by omega
          go_wp2_with fail
          go_ret
          exact ⟨rfl, HB1.out⟩
        · have hbi : ¬ (8192 : Int) < (t.size : Int) + s.size := by omega
          have HP1 := Lib.hid (cparse_any s w1 (by omega) (HG.out.below HB1.out))
          have hta : (aheadL k).length + s.size ≤ 8192 := by
            have h1 := HT.out
            rw [← h1, size_len]
            omega
          have happ : t ++ s = bA (aheadL k ++ s.data.toList) := app_bA t s HT.out
          rcases ahead_two k s hta with ⟨ms, h1, h2⟩ | ⟨p, p2, x, h1, h2, hpp⟩
          · rw [← happ] at h2
            obtain ⟨hg, h8, -, -⟩ := parse_good h1
            have HGM := Lib.hid hg
            have HH1 := Lib.hid h1
            have HH2 := Lib.hid h2
            clear hg h1 h2 happ hta
            go_wp2_with fail
            refine HP1.out.mono ?_
            intro e w3 hp
            obtain ⟨hb3, A, c, q, hq, rfl, hm⟩ := parse_right hp HH1.out
            have hb4 := below_one w3 (.cells #[.slice A q.length c] 25)
            have HB4 := Lib.hid (below_from HB1.out (below_from hb3 hb4))
            have HM4 := Lib.hid (hm.below hb4)
            have HQ1 := Lib.hid hq
            have HP2 := Lib.hid (cparse_any (t ++ s) (w3.alloc (.cells #[.slice A q.length c] 25)) (by simp only [ByteArray.size_append]; omega) (HG.out.below HB4.out))
            clear hp hb3 hb4 hm hq
            go_wp2_with fail
            refine HP2.out.mono ?_
            intro e w5 hp
            obtain ⟨hb5, A2, c2, q2, hq2, rfl, hm2⟩ := parse_right hp HH2.out
            have HM5 := Lib.hid (HM4.out.below hb5)
            have HQ2 := Lib.hid hq2
            have HM2 := Lib.hid hm2
            clear hp hq2 hm2
            obtain ⟨W6, hW6⟩ : ∃ W, W = w5.alloc (.cells #[.slice A2 q2.length c2] 25) := ⟨_, rfl⟩
            have hb6 : Below w5.heap.size w5 W6 := by rw [hW6]; exact below_one w5 _
            have y0 : W6.cell? ⟨w3.heap.size, 0, none⟩ = some (.slice A q.length c) := by rw [cell_of_row _ _ 0 _ _ _ (block_below (block_below (heap_alloc_new w3 (.cells #[.slice A q.length c] 25)) hb5) hb6)]; rfl
            have y1 : W6.cell? ⟨w5.heap.size, 0, none⟩ = some (.slice A2 q2.length c2) := by rw [hW6, cell_of_row _ _ 0 _ _ _ (heap_alloc_new w5 (.cells #[.slice A2 q2.length c2] 25))]; rfl
            have HB6 := Lib.hid (below_from HB4.out (below_from hb5 hb6))
            have HD6 : Hid (Below W6.heap.size W6 W6.drew) := Lib.hid (Below.refl _ _).drew
            have HN : Hid (∀ W, Below W6.heap.size W6 W → Calls Tryz.prog 12 #[.nilIface] W fun e w' => e = .returned (.int .i64 0) ∧ Below W.heap.size W w') := Lib.hid (fun W hW => number .nilIface .nil W rfl (HG.out.below (below_from HB6.out hW)).env)
            have HX1 : Hid (∀ W, Below W6.heap.size W6 W → Calls Tryz.prog 19 #[.agg #[.slice A q.length c]] W fun e w' => e = .returned (.string (bA (textC ms))) ∧ Below W.heap.size W w') := Lib.hid (fun W hW => by
              have := text_any _ q W (by have := congrArg List.length HQ1.out; rw [List.length_map] at this; omega) (fun r hr => good_small (HGM.out r.md (by rw [← HQ1.out]; exact List.mem_map.2 ⟨r, hr, rfl⟩))) ((HM5.out.below hb6).below hW) (HG.out.below (below_from HB6.out hW))
              rw [HQ1.out] at this
              exact this)
            have HX2 : Hid (∀ W, Below W6.heap.size W6 W → Calls Tryz.prog 19 #[.agg #[.slice A2 q2.length c2]] W fun e w' => e = .returned (.string (bA (textC ms))) ∧ Below W.heap.size W w') := Lib.hid (fun W hW => by
              have := text_any _ q2 W (by have := congrArg List.length HQ2.out; rw [List.length_map] at this; omega) (fun r hr => good_small (HGM.out r.md (by rw [← HQ2.out]; exact List.mem_map.2 ⟨r, hr, rfl⟩))) ((HM2.out.below hb6).below hW) (HG.out.below (below_from HB6.out hW))
              rw [HQ2.out] at this
              exact this)
            obtain ⟨g1, hg1⟩ : ∃ g, g = w3.heap.size := ⟨_, rfl⟩
            obtain ⟨g2, hg2⟩ : ∃ g, g = w5.heap.size := ⟨_, rfl⟩
            rw [← hg1] at y0
            rw [← hg2] at y1
            have HS : Hid (∀ W, Below W6.heap.size W6 W → W.cell? ⟨g1, 0, none⟩ = some (.slice A q.length c) ∧ W.cell? ⟨g2, 0, none⟩ = some (.slice A2 q2.length c2)) := Lib.hid (fun W hW => ⟨cell_below hW y0, cell_below hW y1⟩)
            have s6 := Lib.hid (HS.out W6 (Below.refl _ _))
            clear y0 y1
            go_upto_region 17 with fail
            rw [← hW6, ← hg1, ← hg2]
            clear hW6 hg1 hg2 hb5 hb6
            go_region_held3 (fun w' => w'.cell? ⟨g1, 0, none⟩ = some (.slice A q.length c) ∧ w'.cell? ⟨g2, 0, none⟩ = some (.slice A2 q2.length c2))
              (first
                | exact s10.out
                | exact s9.out
                | exact s8.out
                | exact s7.out
                | exact s6.out)
              (first
                | (go_at_call 12
                   first
                     | (refine (HN.out _ HB7.out).mono ?_
                        rintro e w8 ⟨rfl, hb8⟩
                        have HB8 := Lib.hid (below_from HB7.out hb8)
                        have s8 := Lib.hid (HS.out w8 HB8.out)
                        clear hb8)
                     | (refine (HN.out _ HD6.out).mono ?_
                        rintro e w7 ⟨rfl, hb7⟩
                        have HB7 := Lib.hid (below_from HD6.out hb7)
                        have s7 := Lib.hid (HS.out w7 HB7.out)
                        clear hb7))
                | (go_at_call 19
                   first
                     | (refine (HX2.out _ HB9.out).mono ?_
                        rintro e w10 ⟨rfl, hb10⟩
                        have HB10 := Lib.hid (below_from HB9.out hb10)
                        have s10 := Lib.hid (HS.out w10 HB10.out)
                        clear hb10)
                     | (refine (HX1.out _ HB8.out).mono ?_
                        rintro e w9 ⟨rfl, hb9⟩
                        have HB9 := Lib.hid (below_from HB8.out hb9)
                        have s9 := Lib.hid (HS.out w9 HB9.out)
                        clear hb9)))
            all_goals
              go_wp2_with fail
              go_ret
              exact ⟨rfl, below_from HB6.out HB10.out⟩
          · rw [← happ] at h2
            have HH1 := Lib.hid h1
            have HH2 := Lib.hid h2
            have HNE : Hid (GErr.fault p x ≠ .nil ∧ GErr.fault p2 x ≠ .nil) := Lib.hid ⟨(by intro h; cases h), (by intro h; cases h)⟩
            clear h1 h2 happ hta
            go_wp2_with fail
            refine HP1.out.mono ?_
            intro e w3 hp
            obtain ⟨hb3, t1, u1, rfl, hev1⟩ := parse_wrong hp HH1.out HNE.out.1
            have hb4 := below_one w3 (.cells #[.slice none 0 0] 25)
            have HB4 := Lib.hid (below_from HB1.out (below_from hb3 hb4))
            have HEV4 := Lib.hid (hev1.below hb4)
            have HP2 := Lib.hid (cparse_any (t ++ s) (w3.alloc (.cells #[.slice none 0 0] 25)) (by simp only [ByteArray.size_append]; omega) (HG.out.below HB4.out))
            clear hp hb3 hb4 hev1
            go_wp2_with fail
            refine HP2.out.mono ?_
            intro e w5 hp
            obtain ⟨hb5, t2, u2, rfl, hev2⟩ := parse_wrong hp HH2.out HNE.out.2
            have HEV1 := Lib.hid (HEV4.out.below hb5)
            have HEV2 := Lib.hid hev2
            clear hp hev2
            obtain ⟨W6, hW6⟩ : ∃ W, W = w5.alloc (.cells #[.slice none 0 0] 25) := ⟨_, rfl⟩
            have hb6 : Below w5.heap.size w5 W6 := by rw [hW6]; exact below_one w5 _
            have y0 : W6.cell? ⟨w3.heap.size, 0, none⟩ = some (.slice none 0 0) := by rw [cell_of_row _ _ 0 _ _ _ (block_below (block_below (heap_alloc_new w3 (.cells #[.slice none 0 0] 25)) hb5) hb6)]; rfl
            have y1 : W6.cell? ⟨w5.heap.size, 0, none⟩ = some (.slice none 0 0) := by rw [hW6, cell_of_row _ _ 0 _ _ _ (heap_alloc_new w5 (.cells #[.slice none 0 0] 25))]; rfl
            have HB6 := Lib.hid (below_from HB4.out (below_from hb5 hb6))
            have HD6 : Hid (Below W6.heap.size W6 W6.drew) := Lib.hid (Below.refl _ _).drew
            have HN1 : Hid (∀ W, Below W6.heap.size W6 W → Calls Tryz.prog 12 #[.iface t1 u1] W fun e w' => e = .returned (.int .i64 x) ∧ Below W.heap.size W w') := Lib.hid (fun W hW => number _ (.fault p x) W ((HEV1.out.below hb6).below hW) (HG.out.below (below_from HB6.out hW)).env)
            have HN2 : Hid (∀ W, Below W6.heap.size W6 W → Calls Tryz.prog 12 #[.iface t2 u2] W fun e w' => e = .returned (.int .i64 x) ∧ Below W.heap.size W w') := Lib.hid (fun W hW => number _ (.fault p2 x) W ((HEV2.out.below hb6).below hW) (HG.out.below (below_from HB6.out hW)).env)
            have HX : Hid (∀ W, Below W6.heap.size W6 W → Calls Tryz.prog 19 #[.agg #[.slice none 0 0]] W fun e w' => e = .returned (.string ⟨#[]⟩) ∧ Below W.heap.size W w') := Lib.hid (fun W hW => text_any _ [] W (by simp) (fun r h => by cases h) ⟨RowIn.nil _ _ _, fun r h => by cases h⟩ (HG.out.below (below_from HB6.out hW)))
            have HPL1 : Hid (∀ W, Below W6.heap.size W6 W → Calls Tryz.prog 13 #[.iface t1 u1] W fun e w' => e = .returned (.int .i64 p) ∧ Below W.heap.size W w') := Lib.hid (fun W hW => place _ (.fault p x) W ((HEV1.out.below hb6).below hW) (HG.out.below (below_from HB6.out hW)).env)
            have HPL2 : Hid (∀ W, Below W6.heap.size W6 W → Calls Tryz.prog 13 #[.iface t2 u2] W fun e w' => e = .returned (.int .i64 p2) ∧ Below W.heap.size W w') := Lib.hid (fun W hW => place _ (.fault p2 x) W ((HEV2.out.below hb6).below hW) (HG.out.below (below_from HB6.out hW)).env)
            obtain ⟨g1, hg1⟩ : ∃ g, g = w3.heap.size := ⟨_, rfl⟩
            obtain ⟨g2, hg2⟩ : ∃ g, g = w5.heap.size := ⟨_, rfl⟩
            rw [← hg1] at y0
            rw [← hg2] at y1
            have HS : Hid (∀ W, Below W6.heap.size W6 W → W.cell? ⟨g1, 0, none⟩ = some (.slice none 0 0) ∧ W.cell? ⟨g2, 0, none⟩ = some (.slice none 0 0)) := Lib.hid (fun W hW => ⟨cell_below hW y0, cell_below hW y1⟩)
            have s6 := Lib.hid (HS.out W6 (Below.refl _ _))
            clear y0 y1
            go_upto_region 17 with fail
            rw [← hW6, ← hg1, ← hg2]
            clear hW6 hg1 hg2 hb5 hb6
            go_region_held3 (fun w' => w'.cell? ⟨g1, 0, none⟩ = some (.slice none 0 0) ∧ w'.cell? ⟨g2, 0, none⟩ = some (.slice none 0 0))
              (first
                | exact s10.out
                | exact s9.out
                | exact s8.out
                | exact s7.out
                | exact s6.out)
              (first
                | (go_at_call 12
                   first
                     | (refine (HN2.out _ HB7.out).mono ?_
                        rintro e w8 ⟨rfl, hb8⟩
                        have HB8 := Lib.hid (below_from HB7.out hb8)
                        have s8 := Lib.hid (HS.out w8 HB8.out)
                        clear hb8)
                     | (refine (HN1.out _ HD6.out).mono ?_
                        rintro e w7 ⟨rfl, hb7⟩
                        have HB7 := Lib.hid (below_from HD6.out hb7)
                        have s7 := Lib.hid (HS.out w7 HB7.out)
                        clear hb7))
                | (go_at_call 19
                   first
                     | (refine (HX.out _ HB9.out).mono ?_
                        rintro e w10 ⟨rfl, hb10⟩
                        have HB10 := Lib.hid (below_from HB9.out hb10)
                        have s10 := Lib.hid (HS.out w10 HB10.out)
                        clear hb10)
                     | (refine (HX.out _ HB8.out).mono ?_
                        rintro e w9 ⟨rfl, hb9⟩
                        have HB9 := Lib.hid (below_from HB8.out hb9)
                        have s9 := Lib.hid (HS.out w9 HB9.out)
                        clear hb9)))
            have HRP := Lib.hid (fun W => rparse_any s W (by omega))
            clear HS HD6 HB7 HB8 HB9 s6 s7 s8 s9 s10 HN1 HN2 HX
            go_wp2_with fail
            refine (HRP.out _).mono ?_
            intro e w11 hr11
            obtain ⟨hb11, rfl⟩ := rparse_fault hr11 HH1.out
            have HB11 := Lib.hid (below_from HB10.out hb11)
            clear hr11 hb11
            go_wp2_with fail
            refine (HRP.out _).mono ?_
            intro e w12 hr12
            obtain ⟨hb12, rfl⟩ := rparse_fault hr12 HH1.out
            have HB12 := Lib.hid (below_from HB11.out hb12)
            clear hr12 hb12 HRP
            by_cases hx4 : x = 4
            · have bx4 : (x == 4) = true := by rw [beq_iff_eq]; exact hx4
              clear hx4
              go_wp2_with fail
              refine (HPL1.out _ HB12.out).mono ?_
              rintro e w13 ⟨rfl, hb13⟩
              have HB13 := Lib.hid (below_from HB12.out hb13)
              clear hb13
              go_wp2_with fail
              go_ret
              exact ⟨rfl, below_from HB6.out HB13.out⟩
            · have bx4 : (x == 4) = false := by rw [beq_eq_false_iff_ne]; exact hx4
              clear hx4
              by_cases hp2 : p2 = p
              · have bp2 : (p2 == p) = true := by rw [beq_iff_eq]; exact hp2
                clear hp2
                go_wp2_with fail
                refine (HPL2.out _ HB12.out).mono ?_
                rintro e w13 ⟨rfl, hb13⟩
                have HB13 := Lib.hid (below_from HB12.out hb13)
                clear hb13
                go_wp2_with fail
                refine (HPL1.out _ HB13.out).mono ?_
                rintro e w14 ⟨rfl, hb14⟩
                have HB14 := Lib.hid (below_from HB13.out hb14)
                clear hb14
                go_wp2_with fail
                go_ret
                exact ⟨rfl, below_from HB6.out HB14.out⟩
              · have bp2 : (p2 == p) = false := by rw [beq_eq_false_iff_ne]; exact hp2
                obtain ⟨hpe, hp0, hp9⟩ : p2 = p + k ∧ 0 ≤ p ∧ p ≤ 9000 := by
                  rcases hpp with h | h
                  · exact absurd h hp2
                  · exact h
                have hw9 : IntKind.i64.wrap (p + (k : Int)) = p + (k : Int) := IntWalk.i64_in _ (by omega)
                have bp3 : (p2 == p + (k : Int)) = true := by rw [beq_iff_eq]; exact hpe
                clear hp2 hpe
                go_wp2_with fail
                refine (HPL2.out _ HB12.out).mono ?_
                rintro e w13 ⟨rfl, hb13⟩
                have HB13 := Lib.hid (below_from HB12.out hb13)
                clear hb13
                go_wp2_with fail
                refine (HPL1.out _ HB13.out).mono ?_
                rintro e w14 ⟨rfl, hb14⟩
                have HB14 := Lib.hid (below_from HB13.out hb14)
                clear hb14
                go_wp2_with fail
                refine (HPL2.out _ HB14.out).mono ?_
                rintro e w15 ⟨rfl, hb15⟩
                have HB15 := Lib.hid (below_from HB14.out hb15)
                clear hb15
                go_wp2_with fail
                go_ret
                exact ⟨rfl, below_from HB6.out HB15.out⟩
  · rcases hb1 : decide (f < 0) with _ | _
    · rcases hb2 : decide ((20 : Int) < f) with _ | _
      · have b3 : decide ((8000 : Int) < s.size) = true := by
          simp only [decide_eq_false_iff_not] at hb1 hb2
          exact decide_eq_true (by omega)
        clear hr hf hs
        go_enter Tryz.func8, Tryz.ntmps8
        go_wp2_with fail
        refine HH.out.mono ?_
        rintro e w1 ⟨rfl, hw1⟩
        have HB1 := Lib.hid hw1
        clear hw1
        go_wp2_with fail
        go_ret
        exact ⟨rfl, HB1.out⟩
      · clear hr hf hs
        go_enter Tryz.func8, Tryz.ntmps8
        go_wp2_with fail
        refine HH.out.mono ?_
        rintro e w1 ⟨rfl, hw1⟩
        have HB1 := Lib.hid hw1
        clear hw1
        go_wp2_with fail
        go_ret
        exact ⟨rfl, HB1.out⟩
    · clear hr hf hs
      go_enter Tryz.func8, Tryz.ntmps8
      go_wp2_with fail
      refine HH.out.mono ?_
      rintro e w1 ⟨rfl, hw1⟩
      have HB1 := Lib.hid hw1
      clear hw1
      go_wp2_with fail
      go_ret
      exact ⟨rfl, HB1.out⟩
end Go.Proofs.YtddnfooachibiaaGreatDoor

namespace Go.Proofs.YtddnfooachibiaaGreatDoor
open Go.ChangeShapes Go.WideShapes Go.ChangeAt Go.RowKit
open Go.ChangeMaps (open_string shut_string)
set_option maxRecDepth 100000 in
theorem confLines_lifted (os : Os) (started : os.Started) (H : Type) (enc : TypeId × Value → H) :
    ReturnsInHanded {} Tryz.checked os 8 .any (fun w args => (Rows.confLinesSpec.pre enc Tryz.prog Tryz.f8 Rows.confLinesRow.domain false w args ∧ laidMetH Tryz.prog laidC w) ∧ sizedMet enc Tryz.prog Tryz.f8 (OpenSpec.ofChange Rows.confLinesSpec) false w args) (Rows.confLinesSpec.post enc Tryz.prog Tryz.f8 false true false false) := by
  refine returns_and_shaped (C := Tryz.checked) (X := fun w _ => laidMetH Tryz.prog laidC w) (fun _ _ _ hh h => h.of_heap hh) own started (by kernel_rfl) Tryz.func8
    (ChangeSpec.witness_shaped (enc := enc) (C := Tryz.checked) (os := os) (X := fun w _ => laidMetH Tryz.prog laidC w) false (witC os) #[.string ByteArray.empty, .int .i64 0] 8 (witC_os os) (witC_shaped os _) (by kernel_rfl) (by kernel_rfl) (by kernel_rfl) (witC_met os _)) ?_
  intro W base args ds gs before hval0 hW hcnd hsz0 hL hsh _
  have hsz : (DataW.weightsEach Tryz.prog (Tryz.f8.params.toList ++ Rows.confLinesSpec.plain.varTypes Tryz.prog) (ds ++ gs)).all (· ≤ reachBytes) = true := hsz0
  have hval : ∀ (j : Nat) t v, Tryz.f8.params[j]? = some t → args[j]? = some v → Value.okWide Tryz.prog W .any base t v := hval0
  have hW' := hW
  obtain ⟨p, q, hA0, hV, rfl, hfz, hnd⟩ := hW
  have hA : DataW.TrodAll enc Tryz.prog W 0 (fun _ => true) true Tryz.f8.params.toList args.toList ds p := hA0
  rw [Tryz.params8] at hA hval hsz
  obtain ⟨v0, vs0, d0, ds0, p0, q0, hargs, rfl, rfl, h0, r0⟩ := trodAll_cons hA
  obtain ⟨v1, vs1, d1, ds1, p1, q1, rfl, rfl, rfl, h1, r1⟩ := trodAll_cons r0
  obtain ⟨rfl, rfl, rfl⟩ := trodAll_nil r1
  obtain rfl : args = #[v0, v1] := by cases args; simp_all
  obtain ⟨rfl, rfl⟩ := trodVars_none hV
  obtain ⟨a0, rfl, rfl, rfl, y0⟩ := open_string Tryz.underlying9 (hval 0 9 v0 rfl rfl) h0
  have w0 : a0.size ≤ 140737488351232 := by
    have z := sized_string hsz (j := 0) (t := 9) rfl rfl
    rw [Array.length_toList] at z
    exact z
  obtain ⟨a1, rfl, rfl, rfl, w1⟩ := open_int Tryz.underlying3 (hval 1 3 v1 rfl rfl) h1
  clear hA0 hval0 hsz0 hsz
  refine (confLines_walk a0 a1 W w0 w1 (envC_of_laid hL hsh)).mono fun e W' ⟨he, bel⟩ => ?_
  subst he
  exact ⟨_, rfl, _, _, _, [], _, [], hW', trodAll_mk1 (shut_bool Tryz.underlying4 _), (trodAll_cons_mk (shut_string Tryz.underlying9 y0) (trodAll_cons_mk (shut_int Tryz.underlying3 w1) trodAll_mk0)), rfl, bel.frame _, fun h => by cases h⟩
theorem confLines_holds : Rows.ConfLinesSaid :=
  OpenClaim.holds_of_wide 8 Tryz.f8 rfl rfl rfl rfl rfl rfl rfl ⟨rfl, rfl, rfl, rfl, rfl⟩ rfl rfl rfl rfl rfl (by kernel_rfl) Tryz.func8 (by kernel_rfl)
    (of_decide_eq_true (by kernel_rfl)) (by unfold Func.isWrapper; first | (rw [if_pos (by decide +kernel)]; kernel_rfl) | (rw [if_neg (by decide +kernel)]; exact ⟨rfl, rfl⟩))
    (fun os started H enc _ => confLines_lifted os started H enc)
theorem confLines_card : Rows.ConfLinesCardSaid :=
  Claim7.holds_tied_plain_at .later [] [.data, .data, .data, .data, .handle, .sentinel, .sentinel, .pinned] true (true, "7b8443a463c5f55e62ab8a3865c3a1529c07887fc89f48a1587c2956179633cb") true
    confLines_holds (fun _ h => by cases h) (by kernel_rfl) (fun _ h => by cases h) confLines_row_tie rfl ⟨rfl, rfl⟩ (by kernel_rfl) rfl
    (fun f fn hf hfn => by
      obtain rfl : f = 8 := Option.some.inj ((show Tryz.prog.funcNamed "wharfinger/wharfingerlaw13.ConfLines" = some 8 by kernel_rfl).symm.trans hf) |>.symm
      obtain rfl : fn = Tryz.f8 := (Option.some.inj (Tryz.func8.symm.trans hfn)).symm
      exact ⟨by kernel_rfl, fun j t ht => by
        rw [Tryz.params8] at ht
        have hm : t ∈ [9, 3] := by simpa using Array.mem_of_getElem? ht
        have hall : ([9, 3].all fun u => !Tryz.prog.wantsStandIn u) = true := by kernel_rfl
        exact (show Tryz.prog.wantsStandIn t = false by simpa using List.all_eq_true.1 hall t hm)⟩)
    (by kernel_rfl)
#print axioms confLines_card
end Go.Proofs.YtddnfooachibiaaGreatDoor

