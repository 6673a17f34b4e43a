/-
  The law StoryBegins, walked.
-/
import Derived.Test.YtdbacepjaibaoaaDoorStoryPlain
import Derived.Test.YtdbacepjaibaoaaDoorStoryPushesW
set_option linter.unusedVariables false
set_option linter.unusedSimpArgs false
namespace Go.Proofs.YtdbacepjaibaoaaDoor
open Go.RowKit Go.Maps Go.WideMaps Go.WideAt
open Go.Proofs.YtdbacepjaibaoaaDoorW.PrintWords (Kd ReadsRow)
def EvArg6 (o : EvD) : Prop := True ∧ (Lit.int .i64 o.2.1).wf = true ∧ (Lit.int .i64 o.2.2.1).wf = true ∧ o.2.2.2.1.size ≤ maxLen ∧ o.2.2.2.2.1.size ≤ maxLen ∧ (∀ x ∈ o.2.2.2.2.2, ChgArg x)
set_option maxRecDepth 100000 in
set_option maxHeartbeats 2000000 in
theorem storyBegins_walk (v : Value) (l : List EvD) (n : Int) (w : World) (hv : SliceArg kEv w v l) (hg0 : ∀ o ∈ l, EvArg6 o) (hn : (Lit.int .i64 n).wf = true) (hg : Env w) :
    Calls Tryd.prog 4 #[v, .int .i64 n] w fun e w' => e = .returned (.bool true) ∧ Below w.heap.size w w' := by
  obtain ⟨A, c, rfl, hlc, hcm, hC⟩ := hv
  have hmx : (maxLen : Nat) = 9223372036854775807 := rfl
  obtain ⟨hr, hll⟩ := evRow_of hC
  have HK := Lib.hid (tells_any w hg)
  have HG := Lib.hid hg
  have hlm : l.length ≤ 9223372036854775807 := by omega
  have HF := Lib.hid (fun W (hb : Below w.heap.size w W) => fits_evs A c l W (hr.below hb) hlm (fun o ho => by
    have h4 := hll _ ho
    have h5 := hg0 _ ho
    exact ⟨h4.1, by have := h5.2.2.2.1; omega, by have := h5.2.2.2.2.1; omega, fun x hx => ⟨by have := (h5.2.2.2.2.2 x hx).1; omega, h4.2 x hx⟩⟩))
  have HR := Lib.hid hr
  have HNW := Lib.hid hn
  clear hg hC hr hll hg0 hn
  obtain ⟨j0, hj0, hjz0, hjz1, hjz2⟩ := info_parts infoEv
  cases hfit : fitL l with
  | false =>
    rw [hfit] at HF
    go_enter Tryd.func4, Tryd.ntmps4
    go_wp2_with fail
    refine HK.out.mono ?_
    rintro e w1 ⟨rfl, hb1⟩
    go_wp2_with fail
    refine (HF.out w1 hb1).mono ?_
    rintro e w2 ⟨rfl, hb2⟩
    go_wp2_with fail
    go_ret
    exact ⟨rfl, below_from hb1 hb2⟩
  | true =>
    rw [hfit] at HF
    obtain ⟨hf1, hf2, hf3⟩ := fitL_out hfit
    have HF2 := Lib.hid hf2
    clear hfit hf3 hf2
    by_cases hn0 : n < 0
    · have d1 : decide (n < 0) = true := decide_eq_true hn0
      go_enter Tryd.func4, Tryd.ntmps4
      go_wp2_with fail
      refine HK.out.mono ?_
      rintro e w1 ⟨rfl, hb1⟩
      go_wp2_with fail
      refine (HF.out w1 hb1).mono ?_
      rintro e w2 ⟨rfl, hb2⟩
      go_wp2_with fail
      go_ret
      exact ⟨rfl, below_from hb1 hb2⟩
    · have d1 : decide (n < 0) = false := decide_eq_false hn0
      obtain ⟨n, rfl⟩ : ∃ m : Nat, n = (m : Int) := ⟨n.toNat, by omega⟩
      by_cases hnl : n ≤ l.length
      · have d2 : decide ((l.length : Int) < (n : Int)) = false := by simp; omega
        clear hn0
        go_enter Tryd.func4, Tryd.ntmps4
        go_wp2_with fail
        refine HK.out.mono ?_
        rintro e w1 ⟨rfl, hb1⟩
        go_wp2_with fail
        refine (HF.out w1 hb1).mono ?_
        rintro e w2 ⟨rfl, hb2⟩
        have HB2 := Lib.hid (below_from hb1 hb2)
        have hev2 := HR.out.below HB2.out
        clear hb1 hb2
        go_wp2_with fail
        refine (replay_any A c l w2 (by omega) hev2 HF2.out).mono ?_
        clear hev2
        rintro e w3 (⟨Ms, bs, A4, c4, hre, rfl, hma, hb3⟩ | ⟨i, b, hre, rfl, hft, hb3⟩)
        · have HRE := Lib.hid hre
          have HMA := Lib.hid hma
          have HB3 := Lib.hid (below_from HB2.out hb3)
          have hev3 := (HR.out.take n).below HB3.out
          have hnc : n ≤ c := by omega
          have htl : (l.take n).length = n := by rw [List.length_take]; omega
          obtain ⟨R1, rs, ht1, ht2⟩ := replay_take hre n
          have HT1 := Lib.hid ht1
          have hMz : ∀ M ∈ Ms, M.length ≤ 0 + 1000 * l.length := replay_len l [[]] 0 0 HF2.out (fun M hM => by rw [List.mem_singleton.1 hM]; simp) hre
          have HMZ := Lib.hid hMz
          have HKZ := Lib.hid (replay_keys HF2.out hre)
          have hMc : Ms.length ≤ 30 := by
            have := replay_count _ _ _ hre
            simp only [List.length_singleton] at this
            omega
          have hR0 : 0 < R1.length := by
            obtain ⟨r, hr⟩ := replay_ext _ _ _ ht1
            rw [hr]
            simp
          have hlen1 : R1.length ≤ Ms.length := by rw [ht2, List.length_append]; omega
          have hMs0 : 0 < Ms.length := by omega
          have hget : ∀ k (h1 : k < R1.length) (h2 : k < Ms.length), R1[k] = Ms[k] := fun k h1 h2 => by
            have : ∀ (X : List FM), X = R1 ++ rs → ∀ h3 : k < X.length, R1[k] = X[k] := fun X e h3 => by
              subst e
              rw [List.getElem_append_left h1]
            exact this Ms ht2 h2
          have HGET := Lib.hid hget
          clear hre hma hb3 ht1 ht2 hMz hget
          rw [← htl] at hnc
          go_wp2_with fail
          have hrn := replay_any A c (l.take n) w3 (by omega) hev3 (fun e he => HF2.out e (List.mem_of_mem_take he))
          rw [htl] at hrn
          refine hrn.mono ?_
          clear hrn hev3
          rintro e w4 (⟨Ns, cs, A5, c5, hre, rfl, hna, hb4⟩ | ⟨i, b, hre, _⟩)
          · rw [HT1.out] at hre
            injection hre with hre
            subst hre
            have HNA := Lib.hid hna
            have HMA4 := Lib.hid (HMA.out.below hb4)
            have HB4 := Lib.hid (below_from HB3.out hb4)
            have dl : decide (Ms.length < R1.length) = false := by simp; omega
            have hsz34 := hb4.size
            clear hna hb4
            obtain ⟨g1, o1, cr1, hA1, _, hc1⟩ := HMA4.out.row hMs0
            have hA1' : A4 = some ⟨g1, o1, none⟩ := by injection hA1
            subst hA1'
            obtain ⟨g2, o2, cr2, hA2, _, hc2⟩ := HNA.out.row (by omega)
            have hA2' : A5 = some ⟨g2, o2, none⟩ := by injection hA2
            subst hA2'
            have HC1 := Lib.hid hc1
            have HC2 := Lib.hid hc2
            have hbl1 : bs.length = Ms.length := HMA4.out.len
            have hbl2 : cs.length = R1.length := HNA.out.len
            clear hA1 hA2 hc1 hc2
            go_wp2_with fail
            clear dl
            go_loopw [52] (fun i wr => ∃ (k : Nat), k ≤ R1.length ∧ i = .int .i64 k ∧ Below w4.heap.size w4 wr) (fun i _ => R1.length - (intOf i).toNat)
            case atStart => exact ⟨0, by omega, rfl, Below.refl _ _⟩
            case round =>
              obtain ⟨k, hk, rfl, hb⟩ := hrel
              obtain ⟨wk, rfl⟩ : ∃ W, W = wr := ⟨wr, rfl⟩
              have HB := Lib.hid hb
              by_cases hlt : k < R1.length
              · have hlt2 : k < Ms.length := by omega
                have y1 := cell_below hb (HC1.out k (by omega))
                have y2 := cell_below hb (HC2.out k (by omega))
                have hm2 := (HNA.out.maps k (by omega) hlt).below hb
                rw [HGET.out k hlt hlt2] at hm2
                have hm1 := (HMA4.out.maps k (by omega) hlt2).below hb
                have hMk := HMZ.out Ms[k] (List.getElem_mem hlt2)
                have hkz := HKZ.out Ms[k] (List.getElem_mem hlt2)
                generalize bs[k] = b1 at *
                generalize cs[k] = b2 at *
                generalize Ms[k] = M at *
                have HKM := Lib.hid hkz
                have HM1 := Lib.hid hm1
                have HM2 := Lib.hid hm2
                have k1 := cell_regrown y1
                have k2 := cell_regrown y2
                have l1 := fun d os => (hm1.below (below_regrown wk d os)).len Tryd.underlying25 3
                have l2 := fun d os => (hm2.below (below_regrown wk d os)).len Tryd.underlying25 3
                clear hb hm1 hm2 hkz
                go_wp2_with fail
                refine wp_region_quiet_below (by kernel_rfl) (by kernel_rfl) ?_
                repeat (quiet_step (fail))
                refine wpQuiet_nil ?_
                intro _ hw'
                obtain ⟨⟨dq, osq⟩, hw''⟩ := hw'
                subst hw''
                have hbq := below_regrown wk dq osq
                generalize Sort.grow (redrawn wk dq) osq = wa at *
                have HBA := Lib.hid (below_from HB.out hbq)
                have HM1A := Lib.hid (HM1.out.below hbq)
                have hm2a := HM2.out.below hbq
                have HM2A := Lib.hid hm2a
                have y2a := cell_below hbq y2
                have Y1A := Lib.hid (cell_below hbq y1)
                have hM5 : M.length ≤ 100000 := by omega
                clear k1 k2 l1 l2 y1 y2 hbq
                go_wp2_with fail
                refine (paths_any b2 M wa hM5 hm2a).mono ?_
                rintro e wp ⟨A6, c6, K, rfl, hkc, hpo, _, htx, hbp⟩
                have HPO := Lib.hid hpo
                have HTX := Lib.hid htx
                have hKl : K.length ≤ 100000 := by rw [hpo.len]; exact hM5
                have HBP := Lib.hid (below_from HBA.out hbp)
                have HM1P := Lib.hid (HM1A.out.below hbp)
                have HM2P := Lib.hid (HM2A.out.below hbp)
                have Y1P := Lib.hid (cell_below hbp Y1A.out)
                have Y2P := Lib.hid (cell_below hbp y2a)
                clear hpo htx hm2a hbp y2a
                go_wp2_with fail
                go_loopw [72] (fun i wr => ∃ (j : Nat), j ≤ K.length ∧ i = .int .i64 j ∧ Below wp.heap.size wp wr) (fun i _ => K.length - (intOf i).toNat)
                case atStart => exact ⟨0, by omega, rfl, Below.refl _ _⟩
                case round =>
                  obtain ⟨j, hj, rfl, hb⟩ := hrel
                  obtain ⟨wj, rfl⟩ : ∃ W, W = wr := ⟨wr, rfl⟩
                  have HBJ := Lib.hid hb
                  by_cases hjl : j < K.length
                  · obtain ⟨ad, rfl, hT⟩ := (HTX.out.below hb) (by omega)
                    have x1 := hT j hjl
                    have hpk : K[j] ∈ M.map Prod.fst := (HPO.out.mem _).1 (List.getElem_mem hjl)
                    have hpz : K[j].size ≤ maxLen := by have := HKM.out _ hpk; unfold maxLen; omega
                    generalize K[j] = p at *
                    have k1 := cell_regrown (cell_below hb Y1P.out)
                    have k2 := cell_regrown (cell_below hb Y2P.out)
                    have l1 := fun d os => ((HM1P.out.below hb).below (below_regrown wj d os)).look Tryd.underlying25 p hpz
                    have l2 := fun d os => ((HM2P.out.below hb).below (below_regrown wj d os)).look Tryd.underlying25 p hpz
                    generalize ((getM M p).getD ⟨#[]⟩) = dd at *
                    clear hb hT hpk
                    go_wp2_with fail
                    refine wp_region_quiet_below (by kernel_rfl) (by kernel_rfl) ?_
                    repeat (quiet_step (fail))
                    refine wpQuiet_nil ?_
                    intro _ hw'
                    obtain ⟨⟨dq, osq⟩, hw''⟩ := hw'
                    subst hw''
                    have hbq := below_regrown wj dq osq
                    generalize Sort.grow (redrawn wj dq) osq = wb at *
                    have HBB := Lib.hid (below_from HBJ.out hbq)
                    clear k1 k2 l1 l2 hbq x1
                    go_wp2_with fail
                    go_roundw
                    case rel => exact ⟨j + 1, by omega, by go_num, HBB.out⟩
                    case measure => simp [intOf]; omega
                  · obtain rfl : j = K.length := by omega
                    have HBE := Lib.hid (below_from HBP.out hb)
                    clear hb
                    go_wp2_with fail
                    go_roundw
                    case rel => exact ⟨k + 1, by omega, by go_num, HBE.out⟩
                    case measure => simp [intOf]; omega
              · obtain rfl : k = R1.length := by omega
                have HBE := Lib.hid (below_from HB4.out hb)
                obtain ⟨q, hq1, hq2, hq3⟩ := evRow_rows (HR.out.below HBE.out)
                have hql : q.length = l.length := by rw [← hq1, List.length_map]
                have HQ1 := Lib.hid hq1
                have HQ2 := Lib.hid hq2
                have HQ3 := Lib.hid hq3
                have hA0 : Hid (0 < l.length → ∃ ad, A = some ad) := Lib.hid (fun h => by
                  obtain ⟨b, off, _, _, e, _⟩ := HR.out 0 h
                  exact ⟨_, e⟩)
                have hone : Hid (∀ u ∈ flatE q, u.oneCell' = true) := Lib.hid (fun u hu => by
                  obtain ⟨r, _, hr⟩ := List.mem_flatMap.1 hu
                  simp only [ERow.cells, List.mem_cons, List.not_mem_nil, or_false] at hr
                  rcases hr with rfl | rfl | rfl | rfl | rfl | rfl <;> rfl)
                have HBQ : Hid (∀ (w6 w8 : World) (o : Obj) (v6 : Value), Below wk.heap.size wk w6 → (w6.alloc o).ownsRow wk.heap.size 37 6 v6 l.length (flatE q) → (w6.alloc o).grownBy w8 v6.ownBlock → Below wk.heap.size wk w8) := Lib.hid (fun w6 w8 o v6 h1 h2 h3 => (below_from h1 (below_one w6 o)).grown h3 (Nat.le_trans h1.size (by simp)) (fun j hj => (h2.lt j hj).1))
                have HGQ : Hid (∀ (w6 w8 : World) (o : Obj) (v6 : Value), Below wk.heap.size wk w6 → (w6.alloc o).ownsRow wk.heap.size 37 6 v6 l.length (flatE q) → (w6.alloc o).grownBy w8 v6.ownBlock → ∀ r ∈ q ++ [(⟨(false, 0, ((Ms.length : Nat) : Int), ⟨#[]⟩, ⟨#[]⟩, []), none, 0⟩ : ERow)], GoodE w8 r) := Lib.hid (fun w6 w8 o v6 h1 h2 h3 r hr => by
                  rcases List.mem_append.1 hr with hr | hr
                  · exact (HQ2.out r hr).below (HBQ.out w6 w8 o v6 h1 h2 h3)
                  · rw [List.mem_singleton.1 hr]
                    exact ⟨Nat.le_refl _, fun k hk => by simp at hk⟩)
                clear hb hq1 hq2 hq3
                go_wp2_with (first
                  | (at_builtin; refine wpList_append_clone_in rfl (.tmp 92) (.tmp 93) 28 rfl 37 j0 (.agg #[.bool false, .int .i64 0, .int .i64 0, .string ⟨#[]⟩, .string ⟨#[]⟩, .slice none 0 0]) 6 80 Tryd.underlying28 hj0 hjz0 hjz1 hjz2 rfl (by decide) A l.length c (flatE q) (by simp [Act.eval, Act.put]) (by simp [Act.eval, Act.put]) (by rw [flatE_length, hql]) HQ3.out hA0.out hone.out (by unfold maxLen; omega) (by omega) ?_; intro v6 w6 hown6 hb6; have hown7 : Hid ((w6.alloc (.cells #[.bool false, .int .i64 0, .int .i64 ((Ms.length : Nat) : Int), .string ⟨#[]⟩, .string ⟨#[]⟩, .slice none 0 0] 37)).ownsRow wk.heap.size 37 6 v6 l.length (flatE q)) := Lib.hid (own_stay hown6 (below_one w6 _)); have hsrc7 : Hid (∀ (j : Nat) u, ([.bool false, .int .i64 0, .int .i64 ((Ms.length : Nat) : Int), .string ⟨#[]⟩, .string ⟨#[]⟩, .slice none 0 0] : List Value)[j]? = some u → (w6.alloc (.cells #[.bool false, .int .i64 0, .int .i64 ((Ms.length : Nat) : Int), .string ⟨#[]⟩, .string ⟨#[]⟩, .slice none 0 0] 37)).cell? ((⟨w6.heap.size, 0, none⟩ : Addr).add j) = some u) := Lib.hid (src_row w6 _ _); have hs6 := hb6.size)
                  | (at_builtin; go_loud (refine wpList_append_own _ rfl (.tmp 94) (.tmp 98) 28 rfl wk.heap.size 37 j0 (.agg #[.bool false, .int .i64 0, .int .i64 0, .string ⟨#[]⟩, .string ⟨#[]⟩, .slice none 0 0]) 6 80 Tryd.underlying28 hj0 hjz0 hjz1 hjz2 rfl (by decide) v6 l.length (flatE q) (by simp [Act.eval, Act.put]) hown7.out ⟨w6.heap.size, 0, none⟩ 1 1 [.bool false, .int .i64 0, .int .i64 ((Ms.length : Nat) : Int), .string ⟨#[]⟩, .string ⟨#[]⟩, .slice none 0 0] (by simp [Act.eval, Act.put]) rfl hsrc7.out (by simp [Value.oneCell']) (by unfold maxLen; omega) (by omega) (by simp; omega) ?_); intro v8 w8 hown8 hg8 _; obtain ⟨A8, c8, rfl, hc8, hev8⟩ := evRow_own (q := q ++ [(⟨(false, 0, ((Ms.length : Nat) : Int), ⟨#[]⟩, ⟨#[]⟩, []), none, 0⟩ : ERow)]) (by rw [List.length_append, List.length_singleton, flatE_append, hql]; exact hown8) (HGQ.out w6 w8 _ v6 hb6 hown7.out hg8); have HEV8 := Lib.hid hev8; have HB8 := Lib.hid (HBQ.out w6 w8 _ v6 hb6 hown7.out hg8); clear hev8 hown8 hg8; rw [List.map_append, HQ1.out]; rw [List.map_append, HQ1.out] at hc8 HEV8))
                have hlq : (l ++ List.map ERow.ev [(⟨(false, 0, ((Ms.length : Nat) : Int), ⟨#[]⟩, ⟨#[]⟩, []), none, 0⟩ : ERow)]).length = l.length + 1 := by simp
                have hlast : l ++ List.map ERow.ev [(⟨(false, 0, ((Ms.length : Nat) : Int), ⟨#[]⟩, ⟨#[]⟩, []), none, 0⟩ : ERow)] = l ++ [((false, 0, ((Ms.length : Nat) : Int), ⟨#[]⟩, ⟨#[]⟩, []) : EvD)] := rfl
                rw [hlast] at HEV8
                have hrep := replay_any A8 c8 _ w8 (by rw [List.length_append, List.length_singleton]; omega) HEV8.out (fun e he => by
                  rcases List.mem_append.1 he with he | he
                  · exact HF2.out e he
                  · rw [List.mem_singleton.1 he]
                    exact ⟨by show (⟨#[]⟩ : ByteArray).size ≤ 1000; decide, by show (⟨#[]⟩ : ByteArray).size ≤ 1000; decide, by simp, fun x hx => by cases hx⟩)
                rw [List.length_append, List.length_singleton] at hrep
                refine hrep.mono ?_
                clear hrep
                rintro e w9 (⟨Ns, cs2, A9, c9, hre9, _⟩ | ⟨i, b, hre9, rfl, hft, hb9⟩)
                · rw [replay_more HRE.out] at hre9
                  cases hre9
                · rw [replay_more HRE.out] at hre9
                  injection hre9 with hre9
                  subst hre9
                  have hb49 : Below w.heap.size w w9 := HBE.out.trans ((below_from HB8.out hb9).mono HBE.out.size)
                  have HB9 := Lib.hid hb49
                  have HG9 := Lib.hid (HG.out.below hb49)
                  have HFT := Lib.hid hft
                  clear hft hb9 hb49
                  go_wp2_with fail
                  refine (place _ (.fault (l.length : Int) 31) w9 ⟨b, rfl, HFT.out⟩ HG9.out).mono ?_
                  rintro e wz ⟨rfl, hbz⟩
                  simp only [GErr.place]
                  go_wp2_with fail
                  go_ret
                  exact ⟨ret_bool (by simp), below_from HB9.out hbz⟩
          · rw [HT1.out] at hre
            cases hre
        · have HB3 := Lib.hid (below_from HB2.out hb3)
          clear hre hft hb3
          go_wp2_with fail
          go_ret
          exact ⟨rfl, HB3.out⟩
      · have d2 : decide ((l.length : Int) < (n : Int)) = true := by simp; omega
        go_enter Tryd.func4, Tryd.ntmps4
        go_wp2_with fail
        refine HK.out.mono ?_
        rintro e w1 ⟨rfl, hb1⟩
        go_wp2_with fail
        refine (HF.out w1 hb1).mono ?_
        rintro e w2 ⟨rfl, hb2⟩
        go_wp2_with fail
        go_ret
        exact ⟨rfl, below_from hb1 hb2⟩
end Go.Proofs.YtdbacepjaibaoaaDoor
