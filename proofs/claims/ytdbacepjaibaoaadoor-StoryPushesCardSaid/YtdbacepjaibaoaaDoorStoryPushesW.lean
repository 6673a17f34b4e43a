/-
  The law StoryPushes, walked.
-/
import Derived.Test.YtdbacepjaibaoaaDoorStoryEv
import Derived.Deep.RegionLawGrows
set_option linter.unusedVariables false
set_option linter.unusedSimpArgs false
namespace Go.Proofs.YtdbacepjaibaoaaDoor
open Go.RowKit Go.Maps Go.WideMaps Go.WideAt
open Go.Proofs.YtdbacepjaibaoaaDoorW.PrintWords (Kd ReadsRow)
theorem infoEv : (Tryd.prog.info? 37).map (fun i => (i.zero, i.size, i.bytes)) = some (some (.agg #[.bool false, .int .i64 0, .int .i64 0, .string ⟨#[]⟩, .string ⟨#[]⟩, .slice none 0 0]), 6, 80) := by kernel_rfl
def kLst : Kd (List ChgD) := Kd.slice 43 kChg
/-- Lists of changes in memory. -/
def ListRow (w : World) (A : Option Addr) (l : List (List ChgD)) : Prop := ∀ k (h : k < l.length), ∃ b off A' c', A = some ⟨b, off, none⟩ ∧ w.cell? ⟨b, off + k, none⟩ = some (.slice A' l[k].length c') ∧ l[k].length ≤ c' ∧ ChgRow w A' l[k]
theorem ListRow.below {w w' : World} {A : Option Addr} {l : List (List ChgD)} (h : ListRow w A l) (hb : Below w.heap.size w w') : ListRow w' A l := fun k hk => by
  obtain ⟨b, off, A', c', h0, h1, h2, h3⟩ := h k hk
  exact ⟨b, off, A', c', h0, cell_below hb h1, h2, h3.below hb⟩
theorem listRow_of {w : World} {A : Option Addr} {l : List (List ChgD)} (h : Kd.C kLst w A l.length l) : ListRow w A l ∧ (∀ o ∈ l, o.length ≤ 9223372036854775807 ∧ ∀ x ∈ o, x.2.1.length ≤ 9223372036854775807) := by
  have hall : ∀ k (hk : k < l.length), ∃ ad A' c', A = some ad ∧ l[k].length ≤ c' ∧ l[k].length ≤ 9223372036854775807 ∧ Kd.C kChg w A' l[k].length l[k] ∧ w.cell? (ad.add k) = some (.slice A' l[k].length c') := by
    intro k hk
    obtain ⟨ad, e, hc⟩ := h.2.2 (by omega)
    obtain ⟨c, _, ⟨A', c', rfl, hle, hr⟩, hcell⟩ := hc k _ (List.getElem?_eq_getElem hk)
    have h1 := hcell 0 _ rfl
    exact ⟨ad, A', c', e, hle, hr.2.1, hr, by simpa [kLst, Kd.slice] using h1⟩
  refine ⟨fun k hk => ?_, fun o ho => ?_⟩
  · obtain ⟨ad0, _, _, e0, _, _, _, hcell0⟩ := hall 0 (by omega)
    obtain ⟨ad, A', c', e, hle, _, hr, hcell⟩ := hall k hk
    obtain ⟨b, off, spot⟩ := ad
    have hs : spot = none := by
      have e1 : ad0 = ⟨b, off, spot⟩ := Option.some.inj (e0.symm.trans e)
      rw [e1] at hcell0
      have := World.cell?_spot hcell0
      simpa [Addr.add] using this
    subst hs
    rw [Addr.add_lit] at hcell
    exact ⟨b, off, A', c', e, hcell, hle, chgRow_of hr⟩
  · obtain ⟨k, hk, rfl⟩ := List.getElem_of_mem ho
    obtain ⟨ad, A', c', e, hle, hl, hr, hcell⟩ := hall k hk
    exact ⟨hl, chgLen_of hr⟩
theorem src_row (w : World) (l : List Value) (t : TypeId) : ∀ (j : Nat) u, l[j]? = some u → (w.alloc (.cells l.toArray t)).cell? ((⟨w.heap.size, 0, none⟩ : Addr).add j) = some u := fun j u h => by
  rw [Addr.add_lit, World.cell?_alloc_at _ _ _ _ rfl]
  simpa using h
theorem pushE_mem : ∀ {n : Nat} {ls : List (List ChgD)} {o : EvD}, o ∈ pushE n ls → o.2.2.2.2.2 ∈ ls ∧ o.2.2.2.1 = ⟨#[]⟩ ∧ o.2.2.2.2.1 = ⟨#[]⟩
  | _, [], o, h => by cases h
  | n, c :: t, o, h => by
    rcases List.mem_cons.1 h with rfl | h
    · exact ⟨List.mem_cons_self, rfl, rfl⟩
    · obtain ⟨h1, h2⟩ := pushE_mem h
      exact ⟨List.mem_cons_of_mem _ h1, h2⟩
theorem pushE_of_mem : ∀ {n : Nat} {ls : List (List ChgD)} {c : List ChgD}, c ∈ ls → ∃ v : Int, ((true, 0, v, ⟨#[]⟩, ⟨#[]⟩, c) : EvD) ∈ pushE n ls
  | _, [], c, h => by cases h
  | n, a :: t, c, h => by
    rcases List.mem_cons.1 h with rfl | h
    · exact ⟨_, List.mem_cons_self⟩
    · obtain ⟨v, hv⟩ := pushE_of_mem (n := n + 1) h
      exact ⟨v, List.mem_cons_of_mem _ hv⟩
theorem put_del (M : FM) (p d : ByteArray) : putM (delM M p) p d = putM M p d := by
  unfold putM delM
  rw [List.filter_filter]
  simp
set_option maxRecDepth 100000 in
set_option maxHeartbeats 2000000 in
theorem storyPushes_walk (v : Value) (l : List (List ChgD)) (w : World) (hv : SliceArg kLst w v l) (hg0 : ∀ o ∈ l, ∀ x ∈ o, ChgArg x) (hg : Env w) :
    Calls Tryd.prog 5 #[v] w fun e w' => e = .returned (.bool true) ∧ Below w.heap.size w w' := by
  obtain ⟨A, c, rfl, hlc, hcm, hC⟩ := hv
  have hmx : (maxLen : Nat) = 9223372036854775807 := rfl
  obtain ⟨hr, hll⟩ := listRow_of hC
  have HK := Lib.hid (tells_any w hg)
  have HR := Lib.hid hr
  have HLL := Lib.hid hll
  have HGA := Lib.hid hg0
  have hlm : l.length ≤ 9223372036854775807 := by omega
  clear hg hC hr hll hg0
  by_cases hl : l.length ≤ 12
  · have hl2 : decide ((12 : Int) < (l.length : Int)) = false := by simp; omega
    obtain ⟨j0, hj0, hjz0, hjz1, hjz2⟩ := info_parts infoEv
    go_enter Tryd.func5, Tryd.ntmps5
    go_wp2_with fail
    refine HK.out.mono ?_
    rintro e w1 ⟨rfl, hb1⟩
    have HB1 := Lib.hid hb1
    have hs1 := hb1.size
    clear hb1
    go_wp2_with fail
    go_loopw [3, 24] (fun ov i wr => ∃ (k : Nat) (q : List ERow), k ≤ l.length ∧ i = .int .i64 k ∧ q.map ERow.ev = pushE 0 (l.take k) ∧ q.length = k ∧ wr.ownsRow w1.heap.size 37 6 ov q.length (flatE q) ∧ (∀ r ∈ q, GoodE w r) ∧ w1.heap.size ≤ wr.heap.size ∧ Below w.heap.size w wr) (fun _ i _ => l.length - (intOf i).toNat)
    case atStart => exact ⟨0, [], by omega, rfl, rfl, rfl, ⟨rfl, .inl ⟨rfl, rfl⟩⟩, (fun r h => by cases h), Nat.le_refl _, HB1.out⟩
    case round =>
      obtain ⟨k, q, hk, rfl, hq, hql, hown, hgd, hszk, hb⟩ := hrel
      obtain ⟨wk, rfl⟩ : ∃ W, W = wr := ⟨wr, rfl⟩
      have HQ := Lib.hid hq
      have HQL := Lib.hid hql
      have HOWN := Lib.hid hown
      have HGD := Lib.hid hgd
      have HB := Lib.hid hb
      clear hq hown hgd hb
      by_cases hlt : k < l.length
      · obtain ⟨b0, off0, A', c', rfl, x1, x2, x3⟩ := (HR.out.below HB.out) k hlt
        have hcc := (HLL.out l[k] (List.getElem_mem hlt)).1
        have hgr : GoodE w ⟨(true, 0, (k : Int) + 1, ⟨#[]⟩, ⟨#[]⟩, l[k]), A', c'⟩ := by
          obtain ⟨b1, off1, A1, c1, e, y1, y2, y3⟩ := HR.out k hlt
          injection e with e
          injection e with e1 e2
          subst e1 e2
          have y := cell_below HB.out y1
          rw [x1] at y
          injection y with y
          injection y with y4 y5 y6
          subst y4 y6
          exact ⟨y2, y3⟩
        have hsn : pushE 0 (l.take (k + 1)) = pushE 0 (l.take k) ++ [(true, 0, (k : Int) + 1, ⟨#[]⟩, ⟨#[]⟩, l[k])] := by
          rw [List.take_succ_eq_append_getElem hlt, pushE_snoc]
          have e : ((0 + (l.take k).length + 1 : Nat) : Int) = (k : Int) + 1 := by
            rw [List.length_take]
            omega
          rw [e]
        obtain ⟨cs, hcs⟩ : ∃ cs, cs = l[k] := ⟨_, rfl⟩
        rw [← hcs] at x1 hcc hgr hsn
        have HGR := Lib.hid hgr
        have HSN := Lib.hid hsn
        clear hgr hsn hcs x2 x3
        have hk12 : k ≤ 12 := by omega
        have hown0 : Hid ((wk.alloc (.cells #[.bool true, .int .i64 0, .int .i64 ((k : Int) + 1), .string ⟨#[]⟩, .string ⟨#[]⟩, .slice A' cs.length c'] 37)).ownsRow w1.heap.size 37 6 u3 q.length (flatE q)) := Lib.hid (own_stay HOWN.out (below_one _ _))
        have hsrc : Hid (∀ (j : Nat) u, ([.bool true, .int .i64 0, .int .i64 ((k : Int) + 1), .string ⟨#[]⟩, .string ⟨#[]⟩, .slice A' cs.length c'] : List Value)[j]? = some u → (wk.alloc (.cells #[.bool true, .int .i64 0, .int .i64 ((k : Int) + 1), .string ⟨#[]⟩, .string ⟨#[]⟩, .slice A' cs.length c'] 37)).cell? ((⟨wk.heap.size, 0, none⟩ : Addr).add j) = some u) := Lib.hid (src_row wk _ _)
        go_wp2_with (at_builtin; go_loud (refine wpList_append_own _ rfl (.tmp 29) (.tmp 34) 28 rfl w1.heap.size 37 j0 (.agg #[.bool false, .int .i64 0, .int .i64 0, .string ⟨#[]⟩, .string ⟨#[]⟩, .slice none 0 0]) 6 80 Tryd.underlying28 hj0 hjz0 hjz1 hjz2 rfl (by decide) u3 q.length (flatE q) (by simp [Act.eval, Act.put]) hown0.out ⟨wk.heap.size, 0, none⟩ 1 1 [.bool true, .int .i64 0, .int .i64 ((k : Int) + 1), .string ⟨#[]⟩, .string ⟨#[]⟩, .slice A' cs.length c'] (by simp [Act.eval, Act.put]) rfl hsrc.out (by simp [Value.oneCell']) (by unfold maxLen; omega) (by omega) (by simp; omega) ?_); intro v2 w2 hown2 hg2 _)
        have hown3 : w2.ownsRow w1.heap.size 37 6 v2 (q ++ [(⟨(true, 0, (k : Int) + 1, ⟨#[]⟩, ⟨#[]⟩, cs), A', c'⟩ : ERow)]).length (flatE (q ++ [(⟨(true, 0, (k : Int) + 1, ⟨#[]⟩, ⟨#[]⟩, cs), A', c'⟩ : ERow)])) := by
          rw [List.length_append, List.length_singleton, flatE_append]
          exact hown2
        have hB2 : Below w.heap.size w w2 := (below_from HB.out (below_one wk (.cells #[.bool true, .int .i64 0, .int .i64 ((k : Int) + 1), .string ⟨#[]⟩, .string ⟨#[]⟩, .slice A' cs.length c'] 37))).grown hg2 (Nat.le_trans hs1 (Nat.le_trans hszk (by simp))) (fun j hj => Nat.le_trans hs1 (HOWN.out.lt j hj).1)
        have hz2 : w1.heap.size ≤ w2.heap.size := Nat.le_trans hszk (Nat.le_trans (by simp) hg2.size)
        have HO3 := Lib.hid hown3
        have HB2 := Lib.hid hB2
        clear hown2 hown3 hg2 hB2
        go_roundw
        case rel => exact ⟨k + 1, q ++ [(⟨(true, 0, (k : Int) + 1, ⟨#[]⟩, ⟨#[]⟩, cs), A', c'⟩ : ERow)], by omega, by go_num, by rw [List.map_append, HQ.out, HSN.out]; rfl, by simp [hql], HO3.out, (fun r hr => by
          rcases List.mem_append.1 hr with hr | hr
          · exact HGD.out r hr
          · rw [List.mem_singleton.1 hr]; exact HGR.out), hz2, HB2.out⟩
        case measure => simp [intOf]; omega
      · obtain rfl : k = l.length := by omega
        obtain ⟨A3, c3, rfl, hc3, hev⟩ := evRow_own HOWN.out (fun r hr => (HGD.out r hr).below HB.out)
        rw [HQ.out, List.take_length] at hc3 hev ⊢
        have hpl := pushE_length 0 l
        have hmem := fun (o : EvD) (ho : o ∈ pushE 0 l) => pushE_mem ho
        have HF := Lib.hid (fits_evs A3 c3 (pushE 0 l) wk hev (by omega) (fun o ho => by
          obtain ⟨h1, h2, h3⟩ := hmem o ho
          have h4 := HLL.out _ h1
          have h5 := HGA.out _ h1
          exact ⟨h4.1, by rw [h2]; decide, by rw [h3]; decide, fun x hx => ⟨by have := (h5 x hx).1; unfold maxLen at this; omega, h4.2 x hx⟩⟩))
        have HEV := Lib.hid hev
        rw [hpl]
        clear hev hmem
        go_wp2_with fail
        rw [← hpl]
        refine HF.out.mono ?_
        rintro e w2 ⟨rfl, hb2⟩
        have HB2 := Lib.hid (below_from HB.out hb2)
        cases hfit : fitL (pushE 0 l) with
        | false =>
          go_wp2_with fail
          go_ret
          exact ⟨rfl, HB2.out⟩
        | true =>
          obtain ⟨hf1, hf2, hf3⟩ := fitL_out hfit
          have HRP := Lib.hid (replay_any A3 c3 (pushE 0 l) w2 (by omega) (HEV.out.below hb2) hf2)
          clear hfit hb2
          rw [hpl] at HRP ⊢
          have hfl : ∀ c ∈ l, c.length ≤ 1000 ∧ ∀ x ∈ c, x.1.size ≤ 1000 ∧ x.2.1.length ≤ 300000 := fun c hc => by
            obtain ⟨v, hv⟩ := pushE_of_mem (n := 0) hc
            have := hf2 _ hv
            exact ⟨this.2.2.1, this.2.2.2⟩
          have HFL := Lib.hid hfl
          clear hf1 hf2 hf3 hfl
          go_wp2_with fail
          refine HRP.out.mono ?_
          rintro e w3 (⟨Ms, bs, A4, c4, hre, rfl, hma, hb3⟩ | ⟨i, b, hre, _⟩)
          · rw [replay_pushes] at hre
            injection hre with hre
            have hMl : Ms.length = l.length + 1 := by rw [← hre]; simp [mapsM_length]
            have hget : ∀ k (h : k < Ms.length), Ms[k] = nowM l k := fun k h => by
              have h1 := mapsM_get l [] k (by omega)
              have h2 : ([] :: mapsM [] l : List FM) = Ms := hre
              rw [h2, List.getElem?_eq_getElem h] at h1
              exact Option.some.inj h1
            obtain ⟨gr, orr, cr, hA, _, hcells⟩ := hma.row (by omega)
            have hA2 : A4 = some ⟨gr, orr, none⟩ := by injection hA
            subst hA2
            have hbl : bs.length = l.length + 1 := by rw [hma.len, hMl]
            rw [hMl]
            have HMA := Lib.hid hma
            have HGET := Lib.hid hget
            have HCELLS := Lib.hid hcells
            have HB3 := Lib.hid (below_from HB2.out hb3)
            have x0 := hcells 0 (by omega)
            rw [Nat.add_zero] at x0
            have hm0 : FMapAt w3 bs[0] [] := by
              have := hma.maps 0 (by omega) (by omega)
              rw [hget 0 (by omega)] at this
              exact this
            have hlen0 := hm0.len Tryd.underlying25 3
            have HM0 := Lib.hid hm0
            have hmm := @run_makeMap Tryd.prog
            have HN0 := Lib.hid (fmap_new w3)
            have HBN := Lib.hid (below_one w3 (.map #[] 0))
            have hs3 : w.heap.size ≤ w3.heap.size := HB3.out.size
            clear hre hget hA hma hcells hb3 hm0
            go_wp2_with fail
            clear hlen0 x0 hmm
            go_loopw [65] (fun i wr => ∃ (k : Nat), k ≤ l.length ∧ i = .int .i64 k ∧ FMapAt wr w3.heap.size (nowM l k) ∧ Below w3.heap.size w3 wr) (fun i _ => l.length - (intOf i).toNat)
            case atStart => exact ⟨0, by omega, rfl, HN0.out, HBN.out⟩
            case round =>
              obtain ⟨k, hk, rfl, hm, hb⟩ := hrel
              obtain ⟨wk, rfl⟩ : ∃ W, W = wr := ⟨wr, rfl⟩
              have HM := Lib.hid hm
              have HB := Lib.hid hb
              clear hm hb
              by_cases hlt : k < l.length
              · have HBW := Lib.hid (HB3.out.trans (HB.out.mono hs3))
                obtain ⟨b0, off0, A', c', rfl, x1, x2, x3⟩ := HR.out k hlt
                replace x1 := cell_below HBW.out x1
                have hfc := HFL.out l[k] (List.getElem_mem hlt)
                have hsuc := nowM_succ hlt
                obtain ⟨cs, hcs⟩ : ∃ cs, cs = l[k] := ⟨_, rfl⟩
                rw [← hcs] at x1 x3 hfc hsuc
                have hcl := hfc.1
                have HFC := Lib.hid hfc.2
                have HSUC := Lib.hid hsuc
                have HCR := Lib.hid x3
                have hnl : (nowM l k).length ≤ 12000 := by
                  have := nowM_len (fun c hc => (HFL.out c hc).1) k
                  omega
                clear hcs hfc hsuc x2 x3
                have hs5 := HB.out.size
                go_wp2_with fail
                go_loopw [72] (fun i wr => ∃ (j : Nat), j ≤ cs.length ∧ i = .int .i64 j ∧ FMapAt wr w3.heap.size (applyM (nowM l k) (cs.take j)) ∧ Below w3.heap.size wk wr) (fun i _ => cs.length - (intOf i).toNat)
                case atStart => exact ⟨0, by omega, rfl, HM.out, (Below.refl _ _).mono hs5⟩
                case round =>
                  obtain ⟨j, hj, rfl, hm, hb⟩ := hrel
                  obtain ⟨wj, rfl⟩ : ∃ W, W = wr := ⟨wr, rfl⟩
                  have HMJ := Lib.hid hm
                  have HBJ := Lib.hid hb
                  have hbs := hb.size
                  clear hm hb
                  by_cases hjl : j < cs.length
                  · have HBJ2 := Lib.hid (HBJ.out.mono (Nat.le_refl _))
                    have hbw : Below w.heap.size w wj := HBW.out.trans (HBJ.out.mono hs3)
                    obtain ⟨bb, off, A5, c5, rfl, y1, y2, y3, y4, y5, y6⟩ := HCR.out j hjl
                    replace y1 := cell_below hbw y1
                    replace y2 := cell_below hbw y2
                    replace y3 := cell_below hbw y3
                    obtain ⟨ch, hch⟩ : ∃ ch, ch = cs[j] := ⟨_, rfl⟩
                    have hpc := HFC.out ch (hch ▸ List.getElem_mem hjl)
                    have htk : cs.take (j + 1) = cs.take j ++ [ch] := by rw [List.take_succ_eq_append_getElem hjl, hch]
                    have hlen : (applyM (nowM l k) (cs.take j)).length ≤ 101000 := Nat.le_trans (applyM_len _ _) (by rw [List.length_take]; omega)
                    rw [← hch] at y1 y2 y3 y4 y5 y6
                    have HTK := Lib.hid htk
                    clear hch htk
                    obtain ⟨p, d, gn⟩ := ch
                    simp only at y1 y2 y3 y4 y5 y6 hpc
                    have hb1 := below_one wj (.cells #[.string p, .slice A5 d.length c5, .bool gn] 43)
                    have hm1 := HMJ.out.below hb1
                    have hps : p.size ≤ maxLen := by have := hpc.1; unfold maxLen; omega
                    have hwj : w3.heap.size < wj.heap.size := HMJ.out.lt
                    obtain ⟨w5, hrun5, hm5, hg5⟩ := hm1.del Tryd.underlying24 p hps 0
                    have hB5 : Below w3.heap.size wk w5 := (HBJ.out.trans (hb1.mono (Nat.le_of_lt hwj))).grown hg5 (Nat.le_trans (Nat.le_of_lt hwj) hb1.size) (fun j hj => by cases hj; exact Nat.le_refl _)
                    have hbw5 : Below w.heap.size w w5 := HBW.out.trans (hB5.mono hs3)
                    have hdl : (delM (applyM (nowM l k) (cs.take j)) p).length ≤ 101000 := Nat.le_trans (delM_len _ _) hlen
                    have hblk : w5.heap[wj.heap.size]? = some (.cells #[.string p, .slice A5 d.length c5, .bool gn] 43) := by
                      obtain ⟨m, hm, _⟩ := hm1
                      obtain ⟨es, ck, hmb⟩ := hm.isMap
                      have hn := heap_alloc_new wj (.cells #[.string p, .slice A5 d.length c5, .bool gn] 43)
                      exact (hg5.block _ (lt_of_block hn) (fun e => by injection e with e; rw [← e, hn] at hmb; cases hmb)).trans hn
                    have q0 : w5.cell? ⟨wj.heap.size, 0, none⟩ = some (.string p) := by simp [World.cell?, hblk]
                    have q1 : w5.cell? ⟨wj.heap.size, 1, none⟩ = some (.slice A5 d.length c5) := by simp [World.cell?, hblk]
                    have q2 : w5.cell? ⟨wj.heap.size, 2, none⟩ = some (.bool gn) := by simp [World.cell?, hblk]
                    have y5w : ByteRow w5 A5 d := y5.below hbw5
                    have cv := conv_row c5 y5w y6
                    obtain ⟨w6, hrun6, hm6, hg6⟩ := hm5.put Tryd.underlying24 (by omega) p (strOfNums d) hps
                    have hB6 : Below w3.heap.size wk w6 := hB5.grown hg6 (Nat.le_trans hs5 hB5.size) (fun j hj => by cases hj; exact Nat.le_refl _)
                    have HM5 := Lib.hid hm5
                    have HM6 := Lib.hid hm6
                    have HB5 := Lib.hid hB5
                    have HB6 := Lib.hid hB6
                    clear hm1 hm5 hm6 hg5 hg6 hB5 hB6 hbw5 hblk y5w hb1 y5 y6 hpc hbw hdl hlen
                    cases gn with
                    | true =>
                      go_wp2_with fail
                      go_roundw
                      case rel => exact ⟨j + 1, by omega, by go_num, by rw [HTK.out, applyM_snoc]; exact HM5.out, HB5.out⟩
                      case measure => simp [intOf]; omega
                    | false =>
                      go_wp2_with fail
                      go_roundw
                      case rel => exact ⟨j + 1, by omega, by go_num, by rw [HTK.out, applyM_snoc]; rw [put_del] at HM6; exact HM6.out, HB6.out⟩
                      case measure => simp [intOf]; omega
                  · obtain rfl : j = cs.length := by omega
                    have hmj := HMJ.out
                    rw [List.take_length, ← HSUC.out] at hmj
                    have hwj : w3.heap.size < wj.heap.size := HMJ.out.lt
                    have hB3j : Below w3.heap.size w3 wj := HB.out.trans HBJ.out
                    have x0 := cell_below hB3j (HCELLS.out (k + 1) (by omega))
                    obtain ⟨bk, hbk⟩ : ∃ bk, bk = bs[k + 1] := ⟨_, rfl⟩
                    have hmk : FMapAt wj bk (nowM l (k + 1)) := by
                      rw [hbk, ← HGET.out (k + 1) (by omega)]
                      exact (HMA.out.maps (k + 1) (by omega) (by omega)).below hB3j
                    rw [← hbk] at x0
                    have hln1 := hmk.len Tryd.underlying25 3
                    have hln2 := hmj.len Tryd.underlying24 3
                    obtain ⟨mm, hmm, hff⟩ := hmj
                    have HMM := Lib.hid hmm
                    have HFF := Lib.hid hff
                    have HMK := Lib.hid hmk
                    have hbkl := hmk.lt
                    have hB3J := Lib.hid hB3j
                    generalize hnk : nowM l (k + 1) = N1 at *
                    have HNK := Lib.hid hnk
                    clear hbk hmk hmm hff hB3j hnk
                    go_wp2_with (first | (at_range; go_loud (refine wpList_range_as _ rfl _ 24 rfl 9 9 strKeyed Tryd.underlying24 w3.heap.size N1.length mm rfl HMM.out ?_); intro w6 left0 cnt0 hrg0 hl0 hg0 hs0) | go_in)
                    have HBG0 := Lib.hid (below_of_grown hg0)
                    have HRG0 := Lib.hid hrg0
                    clear hln1 hln2 hg0 hrg0 hl0
                    have X0 := Lib.hid x0
                    clear x0
                    go_frame
                    go_loopw [16] (fun tv wr => ∃ (left : Lit → Bool) (cnt : Nat), RangeAs wr Tryd.prog 9 w3.heap.size wj.heap.size N1.length mm left cnt ∧ Below wj.heap.size wj wr) (fun _ wr => wr.rangeLeft w3.heap.size wj.heap.size)
                    case atStart => exact ⟨left0, cnt0, HRG0.out, HBG0.out⟩
                    case round =>
                      obtain ⟨left, cnt, hrg, hb⟩ := hrel
                      obtain ⟨wq, rfl⟩ : ∃ W, W = wr := ⟨wr, rfl⟩
                      have HRG := Lib.hid hrg
                      have HBQ := Lib.hid hb
                      have hsq := hb.size
                      clear hrg hb
                      go_wp2_with (first | (at_next; refine wpList_next_as _ rfl _ rfl 9 Tryd.underlying9 strKeyed w3.heap.size wj.heap.size N1.length mm _ _ rfl HRG.out ?_ ?_) | go_in)
                      · intro hnone
                        have HNF : Hid (FMapAt wq w3.heap.size (nowM l (k + 1))) := Lib.hid (by rw [HNK.out]; exact ⟨mm, HRG.out.map, HFF.out⟩)
                        have HBE : Hid (Below w3.heap.size w3 wq) := Lib.hid (hB3J.out.trans (HBQ.out.mono (Nat.le_of_lt hwj)))
                        clear hnone
                        go_wp2_with fail
                        go_roundw
                        case rel => exact ⟨k + 1, by omega, by go_num, HNF.out, HBE.out⟩
                        case measure => simp [intOf]; omega
                      · intro x cv w7 cnt7 hxm hlx hmx hrg7 hlt7 hg7 hs7 hen
                        obtain ⟨d, hd, rfl⟩ : ∃ d, getM N1 x = some d ∧ cv = .string d := by
                          have h := HFF.out.val x
                          rw [hmx] at h
                          cases hgm : getM N1 x with
                          | none => rw [hgm] at h; cases h
                          | some d => rw [hgm] at h; injection h with h; exact ⟨d, rfl, h⟩
                        have hB7 : Below wj.heap.size wj w7 := HBQ.out.grown hg7 hsq (fun j hj => by cases hj; exact Nat.le_refl _)
                        have hmk7 := HMK.out.below hB7
                        have x7 := cell_below hB7 X0.out
                        have hlk := hmk7.look_ok Tryd.underlying25 x hxm
                        rw [hd] at hlk
                        simp only [Option.getD_some, Option.isSome_some] at hlk
                        have HRG7 := Lib.hid hrg7
                        have HB7 := Lib.hid hB7
                        have HLT7 : Hid (w7.rangeLeft w3.heap.size wj.heap.size < wq.rangeLeft w3.heap.size wj.heap.size) := Lib.hid (by rw [hrg7.left_eq, HRG.out.left_eq]; exact hlt7)
                        clear hlx hmx hrg7 hlt7 hg7 hB7 hmk7 hd
                        go_wp2_with fail
                        go_roundw
                        case rel => exact ⟨_, cnt7, HRG7.out, HB7.out⟩
                        case measure => exact HLT7.out
              · obtain rfl : k = l.length := by omega
                go_wp2_with fail
                go_ret
                exact ⟨rfl, HB3.out.trans (HB.out.mono hs3)⟩
          · rw [replay_pushes] at hre
            cases hre
  · have hl2 : decide ((12 : Int) < (l.length : Int)) = true := by simp; omega
    go_enter Tryd.func5, Tryd.ntmps5
    go_wp2_with fail
    refine HK.out.mono ?_
    rintro e w1 ⟨rfl, hb1⟩
    go_wp2_with fail
    go_ret
    exact ⟨rfl, hb1⟩
end Go.Proofs.YtdbacepjaibaoaaDoor
