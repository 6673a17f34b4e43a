/-
  conf.Parse: the walk.
-/
import Derived.Test.YtddnfooachibiaaGreatDoorConfParseL
set_option linter.unusedVariables false
set_option linter.unusedSimpArgs false
namespace Go.Proofs.YtddnfooachibiaaGreatDoor
open Go.RowKit Go.Maps Go.WideMaps Go.WideAt
set_option maxRecDepth 100000 in
set_option maxHeartbeats 4000000 in
theorem cparse_any (s : ByteArray) (w : World) (hs : s.size ≤ 140737488351232) (hg : EnvC w) : Calls Tryz.prog 10 #[.string s] w (ParsePost s w) := by
  have z0 : w.heap.size < w.heap.size + 1 := Nat.lt_succ_self _
  by_cases hbig : 8192 < s.size
  · have hi : (8192 : Int) < s.size := by omega
    have HR : Hid (parseC s = (.fault 0 2, [])) := Lib.hid (by rw [parseC, if_pos hbig])
    have hb1 := below_one w (.cells #[.slice none 0 0] 25)
    have hn1 := heap_alloc_new w (.cells #[.slice none 0 0] 25)
    have hb2 := below_one (w.alloc (.cells #[.slice none 0 0] 25)) (.cells #[.slice none 0 0] 25)
    have HE := Lib.hid (parse_err0 (b := w.heap.size + 1 + 1) (block_below hn1 hb2) (below_from hb1 hb2) (by simp) 0 2)
    clear hb1 hn1 hb2 hg
    go_enter Tryz.func10, Tryz.ntmps10
    go_wp2_with fail
    exact bodyPost_ret (res_cell_tmp rfl _ _ _ rfl HE.out.1) rfl ⟨HE.out.2.1, .inl ⟨_, _, _, HR.out, (by intro h; cases h), (by simp), HE.out.2.2⟩⟩
  · have hle : ¬ (8192 : Int) < s.size := by omega
    have hs8 : s.size ≤ 8192 := by omega
    have hb1 := below_one w (.cells #[.slice none 0 0] 25)
    have hn1 := heap_alloc_new w (.cells #[.slice none 0 0] 25)
    have hz1 : (w.alloc (.cells #[.slice none 0 0] 25)).heap.size = w.heap.size + 1 := by simp
    have hb2 := below_one (w.alloc (.cells #[.slice none 0 0] 25)) (.cells #[.slice none 0 0] 25)
    have hn2 := heap_alloc_new (w.alloc (.cells #[.slice none 0 0] 25)) (.cells #[.slice none 0 0] 25)
    have hz2 : ((w.alloc (.cells #[.slice none 0 0] 25)).alloc (.cells #[.slice none 0 0] 25)).heap.size = w.heap.size + 2 := by simp
    have hn12 := block_below hn1 hb2
    rw [hz1] at hn2
    have hb12 := below_from hb1 hb2
    clear hb1 hn1 hz1 hb2
    generalize hW2 : (w.alloc (.cells #[.slice none 0 0] 25)).alloc (.cells #[.slice none 0 0] 25) = W2 at hn12 hn2 hb12 hz2
    have HSP := Lib.hid (split_nl s W2 hs8 (hg.below hb12).env.ml)
    obtain ⟨Ls, hLs⟩ : ∃ L, L = linesL s.data.toList := ⟨_, rfl⟩
    have HLE : Hid (∀ x ∈ Ls, x.length ≤ 8192 ∧ (10 : UInt8) ∉ x) := Lib.hid (fun x hx => by
      rw [hLs] at hx
      have := linesL_le _ x hx
      have h2 : s.data.toList.length = s.size := by simp
      exact ⟨by omega, linesL_clean _ x hx⟩)
    have hmany : Ls.length ≤ 8193 := by
      have := linesL_many s.data.toList
      have h2 : s.data.toList.length = s.size := by simp
      rw [hLs]; omega
    rw [← hLs] at HSP
    have HBAD : Hid (∀ k x, parseL 0 ⟨[], []⟩ Ls = .error (k, x) → parseC s = (.fault k x, [])) := Lib.hid (fun k x h => parseC_bad hs8 (hLs ▸ h))
    have HWH : Hid (∀ st g, parseL 0 ⟨[], []⟩ Ls = .ok st → wholeC 0 [] st.ms = g → g ≠ .nil → parseC s = (g, [])) := Lib.hid (fun st g h h2 h3 => parseC_whole hs8 (hLs ▸ h) h2 h3)
    have HOK : Hid (∀ st, parseL 0 ⟨[], []⟩ Ls = .ok st → wholeC 0 [] st.ms = .nil → parseC s = (.nil, st.ms)) := Lib.hid (fun st h h2 => parseC_ok hs8 (hLs ▸ h) h2)
    have hb3 := below_one W2 (.cells (Ls.map fun l => Value.string (bA l)).toArray 9)
    have hn3 := heap_alloc_new W2 (.cells (Ls.map fun l => Value.string (bA l)).toArray 9)
    rw [hz2] at hn3
    have HP0 : Hid (PSt w (W2.alloc (.cells (Ls.map fun l => Value.string (bA l)).toArray 9)) (w.heap.size + 1) (w.heap.size + 2) w.heap.size (Ls.map fun l => Value.string (bA l)).toArray (W2.alloc (.cells (Ls.map fun l => Value.string (bA l)).toArray 9)).heap.size (.slice none 0 0) []) :=
      Lib.hid ⟨PAt.nil (by simp; omega), block_below hn2 hb3, block_below hn12 hb3, hn3, below_from hb12 hb3⟩
    have HG := Lib.hid hg
    clear hg hLs hn12 hn2 hb3 hn3 hb12
    go_enter Tryz.func10, Tryz.ntmps10
    go_wp2_with fail
    try rw [hW2]
    refine HSP.out.mono ?_
    rintro e w3 ⟨rfl, h3⟩
    replace h3 := h3.symm
    subst h3
    go_wp2_with fail
    generalize hW3 : W2.alloc (.cells (Ls.map fun l => Value.string (bA l)).toArray 9) = W3 at *
    clear hW3 hW2
    go_loopw [5, 30] (fun sv i wr => ∃ (k : Nat) (q : List MRow) (seen : List ByteArray) (n bl : Nat) (cv : Value), k ≤ Ls.length ∧ i = .int .i64 k ∧ PSt w wr (w.heap.size + 1) (w.heap.size + 2) w.heap.size (Ls.map fun l => Value.string (bA l)).toArray bl cv q ∧ parseL 0 ⟨[], []⟩ Ls = parseL k ⟨q.map MRow.md, seen⟩ (Ls.drop k) ∧ GoodSt ⟨q.map MRow.md, seen⟩ ∧ (q ≠ [] → ∃ sb, sv = .map (some sb) ∧ SeenAt wr sb n seen ∧ w.heap.size ≤ sb) ∧ n ≤ k) (fun _ i _ => Ls.length - (intOf i).toNat)
    case atStart => exact ⟨0, [], [], 0, W3.heap.size, .slice none 0 0, by omega, rfl, HP0.out, rfl, ⟨(fun m h => by cases h), by decide, List.nodup_nil⟩, (fun h => absurd rfl h), by omega⟩
    case round =>
      obtain ⟨k, q, seen, n, bl, cv, hk, rfl, hP, hgo, hgood, hseen, hn⟩ := hrel
      obtain ⟨wk, rfl⟩ : ∃ W, W = wr := ⟨wr, rfl⟩
      have HP := Lib.hid hP
      have HGO := Lib.hid hgo
      have HGOOD := Lib.hid hgood
      have HSEEN := Lib.hid hseen
      have hqn : q.length ≤ 8 := by simpa using hgood.most
      clear hgo hgood hseen
      by_cases hlt : k < Ls.length
      · have hcl : wk.cell? ⟨w.heap.size + 2, k, none⟩ = some (.string (bA Ls[k])) := by
          rw [cell_of_row _ _ k _ _ _ hP.lines]
          simp [hlt]
        obtain ⟨hrl, hr10⟩ := HLE.out Ls[k] (List.getElem_mem hlt)
        have HSTEP : Hid (∀ st', lineT ⟨q.map MRow.md, seen⟩ (Lib.trimB Ls[k] 32) = .ok st' → parseL 0 ⟨[], []⟩ Ls = parseL (k + 1) st' (Ls.drop (k + 1)) ∧ GoodSt st') := Lib.hid (fun st' h => ⟨HGO.out.trans (parse_step hlt h), lineC_keep HGOOD.out hr10 h⟩)
        have HFELL : Hid (∀ x, lineT ⟨q.map MRow.md, seen⟩ (Lib.trimB Ls[k] 32) = .error x → parseC s = (.fault k x, [])) := Lib.hid (fun x h => HBAD.out k x (HGO.out.trans (parse_fell hlt h)))
        have htl := trimB_len Ls[k] 32
        have HTR := Lib.hid (fun W => trim_any (bA Ls[k]) W (by rw [bA_size]; omega))
        have hraw := bA_size Ls[k]
        obtain ⟨raw, hrw⟩ : ∃ x, x = bA Ls[k] := ⟨_, rfl⟩
        rw [bA_list] at HTR
        rw [← hrw] at hcl HTR
        obtain ⟨l, hl⟩ : ∃ x, x = Lib.trimB Ls[k] 32 := ⟨_, rfl⟩
        rw [← hl] at HTR HSTEP HFELL htl
        have hll : l.length ≤ 8192 := by omega
        obtain ⟨ln, hln⟩ : ∃ x, x = bA l := ⟨_, rfl⟩
        have hlz : ln.size = l.length := by rw [hln, bA_size]
        rw [← hln] at HTR
        have HCT := Lib.hid (fun W (hg : EnvM W) => cut_any ln 61 W (by omega) hg)
        have HLN := Lib.hid hln
        have HLZ := Lib.hid hlz
        have hlnz : ln.size ≤ 8192 := by omega
        have HLL : Hid (ln.data.toList = l) := Lib.hid (by rw [hln]; rfl)
        rw [HLL.out] at HCT
        obtain ⟨kk, hkk⟩ : ∃ x, x = bA (Lib.cut l [61]).1 := ⟨_, rfl⟩
        obtain ⟨vv, hvv⟩ : ∃ x, x = bA (Lib.cut l [61]).2.1 := ⟨_, rfl⟩
        obtain ⟨pp, hpp⟩ : ∃ x, x = (Lib.cut l [61]).2.2 := ⟨_, rfl⟩
        rw [← hkk, ← hvv, ← hpp] at HCT
        have HKK : Hid (keyC l = bA (Lib.trimRightB kk.data.toList 32)) := Lib.hid (by rw [hkk]; rfl)
        have HVV : Hid (valC l = bA (Lib.trimLeftB vv.data.toList 32)) := Lib.hid (by rw [hvv]; rfl)
        have HPP := Lib.hid hpp
        have hkz : kk.size ≤ 8192 := by
          rw [hkk, bA_size]
          have := (cut_len (l := l) (c := 61)).1
          omega
        have hvz : vv.size ≤ 8192 := by
          rw [hvv, bA_size]
          have := (cut_len (l := l) (c := 61)).2
          omega
        clear hkk hvv hpp
        clear hP hrl hr10 htl hraw hrw hl hln hlz
        go_wp2_with fail
        refine (HTR.out _).mono ?_
        rintro e w4 ⟨rfl, hb4⟩
        have HP4 := Lib.hid (HP.out.below hb4)
        have HS4 : Hid (q ≠ [] → ∃ sb, u5 = .map (some sb) ∧ SeenAt w4 sb n seen ∧ w.heap.size ≤ sb) := Lib.hid (fun h => by
          obtain ⟨sb, e, h1, h2⟩ := HSEEN.out h
          exact ⟨sb, e, h1.below hb4, h2⟩)
        clear hb4 hcl
        go_wp2_with fail
        refine (HCT.out _ (HG.out.below HP4.out.bel).env.ml).mono ?_
        rintro e w5 ⟨rfl, hb5⟩
        have HP5 := Lib.hid (HP4.out.below hb5)
        have HS5 : Hid (q ≠ [] → ∃ sb, u5 = .map (some sb) ∧ SeenAt w5 sb n seen ∧ w.heap.size ≤ sb) := Lib.hid (fun h => by
          obtain ⟨sb, e, h1, h2⟩ := HS4.out h
          exact ⟨sb, e, h1.below hb5, h2⟩)
        clear hb5 HP HP4 HSEEN HS4 HCT HTR
        by_cases e0 : l = []
        · have he : ln.toList.isEmpty = true := empty_of (by rw [HLZ.out, e0]; rfl)
          have HN := Lib.hid (HSTEP.out _ (lineT_skip (.inl e0)))
          clear e0
          go_wp2_with fail
          go_roundw
          case rel => exact ⟨k + 1, q, seen, n, bl, cv, by omega, by go_num, HP5.out, HN.out.1, HN.out.2, HS5.out, by omega⟩
          case measure => simp [intOf]; omega
        · have hz0 : 0 < ln.size := by
            rw [HLZ.out]
            exact List.length_pos_iff.2 e0
          have he : ln.toList.isEmpty = false := some_of (by omega)
          have hhd : l.head? = some ln[0] := by rw [← HLL.out]; exact head_at hz0
          by_cases e1 : ln[0] = 35
          · have b35 : ((ln[0].toNat : Int) == 35) = true := by rw [beq_iff_eq, e1]; rfl
            have HN := Lib.hid (HSTEP.out _ (lineT_skip (.inr (by rw [hhd, e1]))))
            clear e0 e1 hhd
            go_wp2_with fail
            go_roundw
            case rel => exact ⟨k + 1, q, seen, n, bl, cv, by omega, by go_num, HP5.out, HN.out.1, HN.out.2, HS5.out, by omega⟩
            case measure => simp [intOf]; omega
          · have b35 : ((ln[0].toNat : Int) == 35) = false := by rw [beq_eq_false_iff_ne]; intro h; exact e1 (UInt8.toNat_inj.1 (by simp; omega))
            by_cases e2 : ln[0] = 91
            · have b91 : ((ln[0].toNat : Int) == 91) = true := by rw [beq_iff_eq, e2]; rfl
              have HOP : Hid (lineT ⟨q.map MRow.md, seen⟩ l = openC ⟨q.map MRow.md, seen⟩ l) := Lib.hid (lineT_open (by rw [hhd, e2]))
              clear e0 e1 e2 hhd
              obtain ⟨A0, c0, hcv⟩ := own_slice HP5.out.pat.row
              subst hcv
              have h1 : 1 ≤ ln.size := hz0
              have hex : (ln.extract 1 ln.size).data.toList = l.drop 1 := by rw [Lib.extract_from, HLL.out]
              have hexz : (ln.extract 1 ln.size).size ≤ 8192 := by simp; omega
              have HSX := Lib.hid (fun W => sufx_any (ln.extract 1 ln.size) W (by omega))
              rw [hex] at HSX
              obtain ⟨nm, hnm⟩ : ∃ x, x = bA (Lib.trimSuffix (l.drop 1) [93]) := ⟨_, rfl⟩
              obtain ⟨sf, hsf⟩ : ∃ x, x = Lib.hasSuffix (l.drop 1) [93] := ⟨_, rfl⟩
              rw [← hnm, ← hsf] at HSX
              have HNM := Lib.hid hnm
              have HSF := Lib.hid hsf
              have hnz : nm.size ≤ 8192 := by
                rw [hnm, bA_size]
                have : (Lib.trimSuffix (l.drop 1) [93]).length ≤ (l.drop 1).length := by
                  unfold Lib.trimSuffix
                  split
                  · rw [List.length_take]; omega
                  · exact Nat.le_refl _
                rw [List.length_drop] at this
                omega
              have y0 : w5.cell? ⟨w.heap.size + 1, 0, none⟩ = some (.slice A0 q.length c0) := by rw [cell_of_row _ _ 0 _ _ _ HP5.out.cell]; rfl
              have HFI := Lib.hid (cfind_any (.slice A0 q.length c0) q nm w5 (by omega) HP5.out.pat.mods)
              obtain ⟨fa, fb, fc, fd, fe, fA, fk, ff, hfv⟩ := findV_form HP5.out.pat.mods nm
              rw [hfv] at HFI
              obtain ⟨tw, htw⟩ : ∃ x, x = (findQ q nm).isSome := ⟨_, rfl⟩
              rw [← htw] at HFI
              have HTW : Hid ((findC (q.map MRow.md) nm).isSome = tw) := Lib.hid (by rw [htw]; exact some_iff)
              have HNC := Lib.hid (fun W => cname_any nm W (by omega))
              have hqi : decide ((q.length : Int) = 8) = decide (q.length = 8) := by simp; omega
              clear hex hexz hnm hsf hfv htw hqi
              go_wp2_with fail
              refine (HSX.out _).mono ?_
              rintro e w6 ⟨rfl, h6⟩
              replace h6 := h6.symm
              subst h6
              go_wp2_with fail
              refine HFI.out.mono ?_
              rintro e w6 ⟨rfl, hb6⟩
              have hb7 := below_from hb6 (below_one w6 (.cells #[.string fa, .string fb, .bool fc, .int .i64 fd, .int .i64 fe, .slice fA fk ff] 41))
              have HP7 := Lib.hid (HP5.out.below hb7)
              have HS7 : Hid (q ≠ [] → ∃ sb, u5 = .map (some sb) ∧ SeenAt (w6.alloc (.cells #[.string fa, .string fb, .bool fc, .int .i64 fd, .int .i64 fe, .slice fA fk ff] 41)) sb n seen ∧ w.heap.size ≤ sb) := Lib.hid (fun h => by
                obtain ⟨sb, e, h1, h2⟩ := HS5.out h
                exact ⟨sb, e, h1.below hb7, h2⟩)
              clear hb6 hb7 y0
              cases sf with
              | false =>
                have HRX := Lib.hid (HFELL.out 130 (HOP.out.trans (openC_suf HSF.out.symm)))
                have HE := Lib.hid (parse_err HP7.out.res HP7.out.bel (Nat.le_refl _) (k : Int) 130)
                obtain ⟨c1, f1, _, _, _⟩ := HE.out
                go_wp2_with fail
                exact bodyPost_ret (res_cell_tmp rfl _ _ _ rfl HE.out.2.2.1) rfl ⟨HE.out.2.2.2.1, .inl ⟨_, _, _, HRX.out, (by intro h; cases h), (by simp), HE.out.2.2.2.2⟩⟩
              | true =>
                cases hnc : nameC nm with
                | false =>
                  have HRX := Lib.hid (HFELL.out 131 (HOP.out.trans (openC_name HSF.out.symm (HNM.out ▸ hnc))))
                  go_wp2_with fail
                  refine (HNC.out _).mono ?_
                  rw [hnc]
                  rintro e w8 ⟨rfl, hb8⟩
                  have HP8 := Lib.hid (HP7.out.below hb8)
                  clear hb8 hnc
                  have HE := Lib.hid (parse_err HP8.out.res HP8.out.bel (Nat.le_refl _) (k : Int) 131)
                  obtain ⟨c1, f1, _, _, _⟩ := HE.out
                  go_wp2_with fail
                  exact bodyPost_ret (res_cell_tmp rfl _ _ _ rfl HE.out.2.2.1) rfl ⟨HE.out.2.2.2.1, .inl ⟨_, _, _, HRX.out, (by intro h; cases h), (by simp), HE.out.2.2.2.2⟩⟩
                | true =>
                  cases tw with
                  | true =>
                    have HRX := Lib.hid (HFELL.out 5 (HOP.out.trans (openC_twice HSF.out.symm (HNM.out ▸ hnc) (HNM.out ▸ HTW.out))))
                    go_wp2_with fail
                    refine (HNC.out _).mono ?_
                    rw [hnc]
                    rintro e w8 ⟨rfl, hb8⟩
                    have HP8 := Lib.hid (HP7.out.below hb8)
                    clear hb8 hnc
                    have HE := Lib.hid (parse_err HP8.out.res HP8.out.bel (Nat.le_refl _) (k : Int) 5)
                    obtain ⟨c1, f1, _, _, _⟩ := HE.out
                    go_wp2_with fail
                    exact bodyPost_ret (res_cell_tmp rfl _ _ _ rfl HE.out.2.2.1) rfl ⟨HE.out.2.2.2.1, .inl ⟨_, _, _, HRX.out, (by intro h; cases h), (by simp), HE.out.2.2.2.2⟩⟩
                  | false =>
                    by_cases h8 : q.length = 8
                    · have HRX := Lib.hid (HFELL.out 3 (HOP.out.trans (openC_full HSF.out.symm (HNM.out ▸ hnc) (HNM.out ▸ HTW.out) (by simp; omega))))
                      have b8 : ((q.length : Int) == 8) = true := by rw [beq_iff_eq]; omega
                      go_wp2_with fail
                      refine (HNC.out _).mono ?_
                      rw [hnc]
                      rintro e w8 ⟨rfl, hb8⟩
                      have HP8 := Lib.hid (HP7.out.below hb8)
                      have y8 : w8.cell? ⟨w.heap.size + 1, 0, none⟩ = some (.slice A0 q.length c0) := by rw [cell_of_row _ _ 0 _ _ _ HP8.out.cell]; rfl
                      clear hb8 hnc h8
                      have HE := Lib.hid (parse_err HP8.out.res HP8.out.bel (Nat.le_refl _) (k : Int) 3)
                      obtain ⟨c1, f1, _, _, _⟩ := HE.out
                      go_wp2_with fail
                      exact bodyPost_ret (res_cell_tmp rfl _ _ _ rfl HE.out.2.2.1) rfl ⟨HE.out.2.2.2.1, .inl ⟨_, _, _, HRX.out, (by intro h; cases h), (by simp), HE.out.2.2.2.2⟩⟩
                    · have HN := Lib.hid (HSTEP.out _ (HOP.out.trans (openC_ok HSF.out.symm (HNM.out ▸ hnc) (HNM.out ▸ HTW.out) (by simp; omega))))
                      rw [← HNM.out] at HN
                      have b8 : ((q.length : Int) == 8) = false := by rw [beq_eq_false_iff_ne]; omega
                      go_wp2_with fail
                      refine (HNC.out _).mono ?_
                      rw [hnc]
                      rintro e w8 ⟨rfl, hb8⟩
                      have HP8 := Lib.hid (HP7.out.below hb8)
                      have y8 : w8.cell? ⟨w.heap.size + 1, 0, none⟩ = some (.slice A0 q.length c0) := by rw [cell_of_row _ _ 0 _ _ _ HP8.out.cell]; rfl
                      clear hb8 hnc h8
                      have hb9 := below_one w8 (.cells #[.string nm, .string ⟨#[]⟩, .bool false, .int .i64 16, .int .i64 262144, .slice none 0 0] 41)
                      have HP9 := Lib.hid (HP8.out.below hb9)
                      have HSRC := Lib.hid (src_row w8 [.string nm, .string ⟨#[]⟩, .bool false, .int .i64 16, .int .i64 262144, .slice none 0 0] 41)
                      have HSZ9 := Lib.hid (Nat.le_trans HP9.out.pat.hbb HP9.out.pat.le)
                      obtain ⟨j0, hj0, hjz0, hjz1, hjz2⟩ := info_parts infoMod
                      have hql : q.length ≤ 8 := hqn
                      have hmm := @run_makeMap Tryz.prog
                      clear hb9
                      go_wp2_with (at_builtin; go_loud (refine wpList_append_own_at _ rfl (.tmp 80) (.tmp 83) 23 rfl w.heap.size 41 j0 (.agg #[.string ⟨#[]⟩, .string ⟨#[]⟩, .bool false, .int .i64 0, .int .i64 0, .slice none 0 0]) 6 80 Tryz.underlying23 hj0 hjz0 hjz1 hjz2 rfl (by decide) (.slice A0 q.length c0) q.length (flatM q) (by simp [Act.eval, Act.put]) HP9.out.pat.row ⟨w8.heap.size, 0, none⟩ 1 1 [.string nm, .string ⟨#[]⟩, .bool false, .int .i64 16, .int .i64 262144, .slice none 0 0] (by simp [Act.eval, Act.put]) rfl HSRC.out (by simp [Value.oneCell']) (by unfold maxLen; omega) (by omega) HSZ9.out ?_; intro v6 w6 hown6 hg6 _ hrel6; obtain ⟨A6, c6, rfl⟩ := own_slice hown6; have hk6 := (OffRow.of HP9.out.pat.row).block HP9.out.cell (by decide) hg6; have x6 : w6.cell? ⟨w.heap.size + 1, 0, none⟩ = some (.slice A0 q.length c0) := (by (rw [cell_of_row _ _ 0 _ _ _ hk6]; rfl)); have f6 := frozen_of_row _ _ 0 _ _ hk6; have HP10 := Lib.hid (HP9.out.more (r := ⟨newMod nm, .slice none 0 0⟩) (by omega) (by omega) hown6 hg6 rfl rfl); clear hown6 hg6 hrel6 hk6))
                      have HP11 := Lib.hid (HP10.out.below (below_one _ (.map #[] 0)))
                      have HM11 : Hid ((q ++ [(⟨newMod nm, .slice none 0 0⟩ : MRow)]).map MRow.md = q.map MRow.md ++ [newMod nm]) := Lib.hid (by simp)
                      have HSB : Hid (w.heap.size ≤ (w6.setCell ⟨w.heap.size + 1, 0, none⟩ (.slice A6 (q.length + 1) c6)).heap.size) := Lib.hid HP10.out.bel.size
                      have HSN := Lib.hid (SeenAt.new (w6.setCell ⟨w.heap.size + 1, 0, none⟩ (.slice A6 (q.length + 1) c6)))
                      go_roundw
                      case rel => exact ⟨k + 1, q ++ [⟨newMod nm, .slice none 0 0⟩], [], 0, w6.heap.size, _, by omega, by go_num, HP11.out, by rw [HM11.out]; exact HN.out.1, by rw [HM11.out]; exact HN.out.2, (fun _ => ⟨_, rfl, (by first | exact HSN.out | (simpa using HSN.out)), (by first | exact HSB.out | (simpa using HSB.out))⟩), by omega⟩
                      case measure => simp [intOf]; omega
            · have b91 : ((ln[0].toNat : Int) == 91) = false := by rw [beq_eq_false_iff_ne]; intro h; exact e2 (UInt8.toNat_inj.1 (by simp; omega))
              have HND : Hid (l ≠ [] ∧ l.head? ≠ some 35 ∧ l.head? ≠ some 91) := Lib.hid ⟨e0, (by rw [hhd]; intro h; exact e1 (Option.some.inj h)), (by rw [hhd]; intro h; exact e2 (Option.some.inj h))⟩
              clear e0 e1 e2 hhd
              cases pp with
              | false =>
                have HRX := Lib.hid (HFELL.out 130 (lineT_no HND.out.1 HND.out.2.1 HND.out.2.2 HPP.out.symm))
                have HE := Lib.hid (parse_err HP5.out.res HP5.out.bel (Nat.le_refl _) (k : Int) 130)
                obtain ⟨c1, f1, _, _, _⟩ := HE.out
                go_wp2_with fail
                exact bodyPost_ret (res_cell_tmp rfl _ _ _ rfl HE.out.2.2.1) rfl ⟨HE.out.2.2.2.1, .inl ⟨_, _, _, HRX.out, (by intro h; cases h), (by simp), HE.out.2.2.2.2⟩⟩
              | true =>
                rcases q_cases q with hq | ⟨pre, r, hq⟩
                · subst hq
                  obtain ⟨A0, c0, hcv⟩ := own_slice HP5.out.pat.row
                  subst hcv
                  have y0 : w5.cell? ⟨w.heap.size + 1, 0, none⟩ = some (.slice A0 0 c0) := by rw [cell_of_row _ _ 0 _ _ _ HP5.out.cell]; rfl
                  have HRX := Lib.hid (HFELL.out 130 (lineT_none HND.out.1 HND.out.2.1 HND.out.2.2 HPP.out.symm rfl))
                  have HE := Lib.hid (parse_err HP5.out.res HP5.out.bel (Nat.le_refl _) (k : Int) 130)
                  obtain ⟨c1, f1, _, _, _⟩ := HE.out
                  go_wp2_with fail
                  exact bodyPost_ret (res_cell_tmp rfl _ _ _ rfl HE.out.2.2.1) rfl ⟨HE.out.2.2.2.1, .inl ⟨_, _, _, HRX.out, (by intro h; cases h), (by simp), HE.out.2.2.2.2⟩⟩
                · subst hq
                  obtain ⟨sb, hsv, hsn, hsb⟩ := HS5.out (by simp)
                  subst hsv
                  obtain ⟨g, cap, hcv, hin⟩ := HP5.out.pat.setIn hsn hsb
                  subst hcv
                  have y0 : w5.cell? ⟨w.heap.size + 1, 0, none⟩ = some (.slice (some ⟨g, 0, none⟩) (pre.length + 1) cap) := by rw [cell_of_row _ _ 0 _ _ _ HP5.out.cell]; rfl
                  have HIN := Lib.hid hin
                  have hmap : (pre ++ [r]).map MRow.md = pre.map MRow.md ++ [r.md] := by simp
                  have h8 : r.md.us.length ≤ 8 := (HGOOD.out.ms r.md (by simp)).most
                  have HSET := Lib.hid (set_any w bl g cap pre r sb n seen (keyC l) (valC l) w5 (by rw [keyC, bA_size]; have h1 := (right_prefix (Lib.cut l [61]).1).length_le; have h2 := (cut_len (l := l) (c := 61)).1; omega) (by rw [valC, bA_size]; have h1 : (Lib.trimLeftB (Lib.cut l [61]).2.1 32).length ≤ (Lib.cut l [61]).2.1.length := (List.dropWhile_suffix _).length_le; have h2 := (cut_len (l := l) (c := 61)).2; omega) (by omega) hin HP5.out.bel HG.out h8)
                  have HTL := Lib.hid (fun W => trimL_any vv W)
                  have HTRR := Lib.hid (fun W => trimR_any kk W (by omega))
                  have HLT : Hid (lineT ⟨(pre ++ [r]).map MRow.md, seen⟩ l = (setC r.md seen (keyC l) (valC l)).map fun x => ⟨pre.map MRow.md ++ [x.1], x.2⟩) := Lib.hid (by rw [hmap]; exact lineT_set HND.out.1 HND.out.2.1 HND.out.2.2 HPP.out.symm)
                  have b0n : (((pre.length + 1 : Nat) : Int) == 0) = false := by rw [beq_eq_false_iff_ne]; omega
                  have hqn2 : pre.length ≤ 8 := by simp at hqn; omega
                  rw [HKK.out, HVV.out] at HSET
                  obtain ⟨kc, hkc⟩ : ∃ x, x = bA (Lib.trimRightB kk.data.toList 32) := ⟨_, rfl⟩
                  obtain ⟨vc, hvc⟩ : ∃ x, x = bA (Lib.trimLeftB vv.data.toList 32) := ⟨_, rfl⟩
                  rw [← hkc, ← hvc] at HSET
                  rw [← hkc] at HTRR
                  rw [← hvc] at HTL
                  have HKC : Hid (keyC l = kc ∧ valC l = vc) := Lib.hid ⟨HKK.out.trans hkc.symm, HVV.out.trans hvc.symm⟩
                  rw [HKC.out.1, HKC.out.2] at HLT
                  clear hkc hvc hsn hin hmap h8
                  go_wp2_with fail
                  refine (HTRR.out _).mono ?_
                  rintro e w6 ⟨rfl, h6⟩
                  replace h6 := h6.symm
                  subst h6
                  go_wp2_with fail
                  refine (HTL.out _).mono ?_
                  rintro e w6 ⟨rfl, h6⟩
                  replace h6 := h6.symm
                  subst h6
                  go_wp2_with fail
                  refine HSET.out.mono ?_
                  rintro e w6 ⟨hF, ⟨x, hset, hx, rfl⟩ | ⟨m', s', uv', hset, rfl, hin6, hrel⟩⟩
                  · have HRX := Lib.hid (HFELL.out x (by rw [HLT.out, hset]; rfl))
                    obtain ⟨hres6, hbel6⟩ := HP5.out.fell HIN.out hF
                    have bx : (x != 0) = true := by rw [bne, Bool.not_eq_true', beq_eq_false_iff_ne]; exact hx
                    have bx' : (x == 0) = false := by rw [beq_eq_false_iff_ne]; exact hx
                    have HE := Lib.hid (parse_err hres6 hbel6 (Nat.le_refl _) (k : Int) x)
                    obtain ⟨c1, f1, _, _, _⟩ := HE.out
                    clear hF hset hx hres6 hbel6 y0
                    go_wp2_with fail
                    exact bodyPost_ret (res_cell_tmp rfl _ _ _ rfl HE.out.2.2.1) rfl ⟨HE.out.2.2.2.1, .inl ⟨_, _, _, HRX.out, (by intro h; cases h), (by simp), HE.out.2.2.2.2⟩⟩
                  · have HN := Lib.hid (HSTEP.out _ (by rw [HLT.out, hset]; rfl))
                    have hP6 := HP5.out.set (r' := ⟨m', uv'⟩) HIN.out hF hin6 hrel
                    have HP6 := Lib.hid hP6
                    have HSN6 := Lib.hid hin6.seen
                    have HM6 : Hid ((pre ++ [(⟨m', uv'⟩ : MRow)]).map MRow.md = pre.map MRow.md ++ [m']) := Lib.hid (by simp)
                    clear hF hset hin6 hrel hP6 y0
                    go_wp2_with fail
                    go_roundw
                    case rel => exact ⟨k + 1, pre ++ [⟨m', uv'⟩], s', n + 1, bl, _, by omega, by go_num, HP6.out, by rw [HM6.out]; exact HN.out.1, by rw [HM6.out]; exact HN.out.2, (fun _ => ⟨sb, rfl, HSN6.out, hsb⟩), by omega⟩
                    case measure => simp [intOf]; omega
      · have HEND : Hid (parseL 0 ⟨[], []⟩ Ls = .ok ⟨q.map MRow.md, seen⟩) := Lib.hid (by rw [HGO.out, List.drop_of_length_le (by omega), parseL])
        obtain rfl : k = Ls.length := by omega
        obtain ⟨A0, c0, hcv⟩ := own_slice hP.pat.row
        subst hcv
        have y0 : wk.cell? ⟨w.heap.size + 1, 0, none⟩ = some (.slice A0 q.length c0) := by rw [cell_of_row _ _ 0 _ _ _ hP.cell]; rfl
        have HCK := Lib.hid (ccheck_any (.slice A0 q.length c0) q wk (by omega) (fun r hr => by
          have hz := (HGOOD.out.ms r.md (List.mem_map.2 ⟨r, hr, rfl⟩)).root
          rcases hz with e | e
          · have : r.md.root.data.toList.length = r.md.root.size := by simp
            rw [e] at this
            simp at this
            omega
          · by_cases hbg : 64 < r.md.root.size
            · exfalso
              have : checkB r.md.root ≠ none := by
                unfold checkB
                rw [if_pos (by simp; right; omega)]
                simp
              exact this e
            · omega) hP.pat.mods)
        clear hP
        go_wp2_with fail
        refine HCK.out.mono ?_
        rintro e w4 ⟨er, rfl, hev, hb4⟩
        have HP4 := Lib.hid (HP.out.below hb4)
        have y4 : w4.cell? ⟨w.heap.size + 1, 0, none⟩ = some (.slice A0 q.length c0) := by rw [cell_of_row _ _ 0 _ _ _ HP4.out.cell]; rfl
        have y5 : w4.cell? ⟨w.heap.size, 0, none⟩ = some (.slice none 0 0) := by rw [cell_of_row _ _ 0 _ _ _ HP4.out.res]; rfl
        have f5 := frozen_of_row _ _ 0 _ _ HP4.out.res
        clear hb4 y0
        rcases whole_form (q.map MRow.md) 0 [] with hw | ⟨p, x, hw⟩
        · rw [hw] at hev
          obtain rfl : er = .nilIface := hev
          have HR := Lib.hid (HOK.out _ HEND.out hw)
          have HE := Lib.hid (whole_ok HP4.out (Nat.le_refl _))
          clear hw
          go_wp2_with fail
          exact bodyPost_ret (res_cell_tmp rfl _ _ _ rfl HE.out.1) rfl ⟨HE.out.2.1, .inr ⟨_, q, HR.out, (by simp), HE.out.2.2⟩⟩
        · rw [hw] at hev
          have HR := Lib.hid (HWH.out _ _ HEND.out hw (by intro h; cases h))
          have HE := Lib.hid (whole_err HP4.out.res HP4.out.bel (Nat.le_refl _) hev)
          obtain ⟨bf, rfl, _⟩ := hev
          clear hw
          go_wp2_with fail
          exact bodyPost_ret (res_cell_tmp rfl _ _ _ rfl HE.out.1) rfl ⟨HE.out.2.1, .inl ⟨_, _, _, HR.out, (by intro h; cases h), (by simp), HE.out.2.2⟩⟩
end Go.Proofs.YtddnfooachibiaaGreatDoor
