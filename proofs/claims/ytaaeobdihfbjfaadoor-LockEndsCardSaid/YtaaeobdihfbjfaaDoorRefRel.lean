/-
  The reference's Release.
-/
import Derived.Test.YtaaeobdihfbjfaaDoorRefPut
set_option linter.unusedVariables false
set_option linter.unusedSimpArgs false
namespace Go.Proofs.YtaaeobdihfbjfaaDoor
open Go.RowKit Go.Sort
theorem own_prefix {w : World} {base : Nat} {e : TypeId} {size n k : Nat} {A : Option Addr} {c : Nat} {xs : List Value} (h : w.ownsRow base e size (.slice A n c) n xs) (hk : k ≤ n) : w.ownsRow base e size (.slice A k c) k (xs.take (k * size)) := by
  obtain ⟨h1, h2⟩ := h
  have hks : k * size ≤ n * size := Nat.mul_le_mul_right _ hk
  refine ⟨by rw [List.length_take, h1]; omega, ?_⟩
  rcases h2 with ⟨h2, h3⟩ | ⟨g, cap, cur, hv, hb, hh, hc, hm, hs, ht⟩
  · left
    injection h2 with e1 e2 e3
    subst e1 e3
    have : k = 0 := by omega
    exact ⟨by rw [this], this⟩
  · right
    injection hv with e1 e2 e3
    subst e1 e3
    refine ⟨g, c, cur, rfl, hb, hh, by omega, hm, hs, ?_⟩
    rw [← ht, List.take_take, Nat.min_eq_left hks]
theorem flat2_take (q : List RRow) : ∀ i, flat2 (q.take i) = (flat2 q).take (i * 2) := by
  induction q with
  | nil => intro i; simp [flat2]
  | cons a r ih =>
    intro i
    cases i with
    | zero => simp [flat2]
    | succ i =>
      have e : (i + 1) * 2 = i * 2 + 2 := by omega
      rw [e]
      have := ih i
      simp only [flat2, List.take_succ_cons, List.flatMap_cons, RRow.cells, List.cons_append, List.nil_append] at this ⊢
      rw [this]
theorem flat2_drop (q : List RRow) : ∀ i, flat2 (q.drop i) = (flat2 q).drop (i * 2) := by
  induction q with
  | nil => intro i; simp [flat2]
  | cons a r ih =>
    intro i
    cases i with
    | zero => simp [flat2]
    | succ i =>
      have e : (i + 1) * 2 = i * 2 + 2 := by omega
      rw [e]
      have := ih i
      simp only [flat2, List.drop_succ_cons, List.flatMap_cons, RRow.cells, List.cons_append, List.nil_append] at this ⊢
      rw [this]
/-- Those who have theirs by a release, as the reference tells them. -/
def toldR (q q1 : List RRow) (n : Nat) : List Int := ((List.range n).filter fun i => canS (sigR q1) i && !canS (sigR q) (findR q (q1.getD i zR).who).toNat).map fun i => (q1.getD i zR).who
theorem findR_present {q : List RRow} {a : RRow} (h : a ∈ q) : ∃ m : Nat, m < q.length ∧ findR q a.who = m := by
  rcases findR_cases q a.who with hm | ⟨k, hk, hm⟩
  · exfalso
    obtain ⟨i, hi, rfl⟩ := List.getElem_of_mem h
    unfold findR firstB at hm
    cases hf : (List.range q.length).find? (fun k => (q.getD k zR).who == q[i].who) with
    | some y => rw [hf] at hm; simp at hm
    | none =>
      rw [List.find?_eq_none] at hf
      exact hf i (List.mem_range.2 hi) (by simp [List.getD, hi])
  · exact ⟨k, hk, hm⟩
theorem told_no {q q1 : List RRow} {j : Nat} (h : (canS (sigR q1) j && !canS (sigR q) (findR q (q1.getD j zR).who).toNat) = false) : toldR q q1 (j + 1) = toldR q q1 j := by
  unfold toldR
  rw [List.range_succ, List.filter_append, List.map_append, List.filter_cons, h]
  simp
theorem told_yes {q q1 : List RRow} {j : Nat} (h : (canS (sigR q1) j && !canS (sigR q) (findR q (q1.getD j zR).who).toNat) = true) : toldR q q1 (j + 1) = toldR q q1 j ++ [(q1.getD j zR).who] := by
  unfold toldR
  rw [List.range_succ, List.filter_append, List.map_append, List.filter_cons, h]
  simp
theorem told_len (q q1 : List RRow) (n : Nat) : (toldR q q1 n).length ≤ n := by
  unfold toldR
  rw [List.length_map]
  exact Nat.le_trans (List.length_filter_le _ _) (by simp)
def RRelPost (q : List RRow) (who : Int) (base : Nat) (w : World) (e : Ending) (w' : World) : Prop :=
  (findR q who = -1 ∧ ∃ v, e = .returned (.tuple #[v, .slice none 0 0, .int .i64 4]) ∧ AsksAt w' base v q ∧ Below w.heap.size w w') ∨
  (∃ k : Nat, k < q.length ∧ findR q who = k ∧ ∃ v o, e = .returned (.tuple #[v, o, .int .i64 0]) ∧ AsksAt w' base v (q.eraseIdx k) ∧ w'.ownsRow w.heap.size 3 1 o (toldR q (q.eraseIdx k) (q.length - 1)).length (intsV (toldR q (q.eraseIdx k) (q.length - 1))) ∧ Below w.heap.size w w')
set_option maxRecDepth 100000 in
set_option maxHeartbeats 4000000 in
theorem rrel_any (v : Value) (who : Int) (q : List RRow) (w : World) {base : Nat} (hq : q.length ≤ 1000) (hr : AsksAt w base v q) (hbase : base ≤ w.heap.size) :
    Calls Tryd.prog 26 #[v, .int .i64 who] w (RRelPost q who base w) := by
  have HR := Lib.hid hr
  have hf := rfind_any v who q w hq hr
  obtain ⟨A0, c0, rfl, hcap, hrows⟩ := hr.form
  clear hr
  rcases findR_cases q who with hm | ⟨k, hk, hm⟩
  · rw [hm] at hf
    have HF := Lib.hid hf
    have HM := Lib.hid hm
    clear hf hm hrows
    go_enter Tryd.func26, Tryd.ntmps26
    go_wp2_with fail
    refine HF.out.mono ?_
    rintro e w2 ⟨rfl, hb2⟩
    go_wp2_with fail
    go_ret3
    exact .inl ⟨HM.out, _, rfl, HR.out.below hb2, hb2⟩
  · rw [hm] at hf
    have HF := Lib.hid hf
    have HM := Lib.hid hm
    obtain ⟨b, rfl, _⟩ := hrows (by omega)
    have hk0 : decide ((k : Int) < 0) = false := by simp
    clear hf hm hrows
    go_enter Tryd.func26, Tryd.ntmps26
    go_wp2_with fail
    refine HF.out.mono ?_
    rintro e w2 ⟨rfl, hb2⟩
    obtain ⟨i0, hi0, hz0, hz1, hz2⟩ := info_parts infoRAsk
    have hone : Hid (∀ u ∈ flat2 q, u.oneCell' = true) := by
      intro u hu
      obtain ⟨a, ha, hu2⟩ := List.mem_flatMap.1 hu
      simp [RRow.cells] at hu2
      rcases hu2 with rfl | rfl
      · rfl
      · obtain ⟨A', c', e, _⟩ := own_row (HR.out.2 a ha).1
        rw [e]; rfl
    have HR2 := Lib.hid (HR.out.below hb2)
    have hpre : Hid (w2.ownsRow base 48 2 (.slice (some ⟨b, 0, none⟩) k c0) k ((flat2 q).take (k * 2))) := own_prefix HR2.out.1 (by omega)
    have hone2 : Hid (∀ u ∈ (flat2 q).take (k * 2), u.oneCell' = true) := fun u hu => hone.out u (List.mem_of_mem_take hu)
    obtain ⟨m, hm⟩ : ∃ m, q.length - (k + 1) = m := ⟨_, rfl⟩
    obtain ⟨news, hnews⟩ : ∃ news, news = (flat2 q).drop ((k + 1) * 2) := ⟨_, rfl⟩
    have hnl : news.length = m * 2 := by rw [hnews, List.length_drop, flat2_length, ← hm]; omega
    obtain ⟨A, hA, hsrc⟩ : ∃ A : Addr, (if c0 = k + 1 then some (⟨b, 0, none⟩ : Addr) else some ⟨b, (k + 1) * 2, none⟩) = some A ∧ Hid (∀ t u, news[t]? = some u → w2.cell? (A.add t) = some u) := by
      by_cases h : c0 = k + 1
      · refine ⟨⟨b, 0, none⟩, by simp [h], fun t u hu => ?_⟩
        have h0 : news = [] := List.length_eq_zero_iff.1 (by rw [hnl]; omega)
        rw [h0] at hu
        simp at hu
      · refine ⟨⟨b, (k + 1) * 2, none⟩, by simp [h], fun t u hu => ?_⟩
        have h1 : (flat2 q)[(k + 1) * 2 + t]? = some u := by rw [← hu, hnews, List.getElem?_drop]
        have hlt := (List.getElem?_eq_some_iff.1 h1).1
        rw [flat2_length] at hlt
        rw [Addr.add_lit]
        exact (HR2.out.1.cellAt ((k + 1) * 2 + t) (by omega)).trans h1
    have hone3 : Hid (∀ u ∈ news, u.oneCell' = true) := fun u hu => hone.out u (by rw [hnews] at hu; exact List.mem_of_mem_drop hu)
    have HN := Lib.hid hnews
    have HNL := Lib.hid hnl
    have h01 : (0 : Int) ≤ (k : Int) + 1 := by omega
    have h02 : (k : Int) + 1 ≤ (q.length : Int) := by omega
    have hbz : w2.heap.size ≤ w2.heap.size := Nat.le_refl _
    clear hnews hnl
    go_wp2_with (first | (at_builtin; refine wpList_append_clone rfl (.tmp 17) (.tmp 20) 44 rfl base 48 i0 (.agg #[.int .i64 0, .slice none 0 0]) 2 32 Tryd.underlying44 hi0 hz0 hz1 hz2 rfl (by decide) (.slice (some ⟨b, 0, none⟩) k c0) k ((flat2 q).take (k * 2)) (by simp [Act.eval, Act.put]) (by simp [Act.eval, Act.put]) hpre.out hone2.out (by unfold maxLen; omega) (by omega) ?_; intro v4 w4 ho4 hb4; have hs4 := hb4.size; have hsrc4 : Hid (∀ t u, news[t]? = some u → w4.cell? (A.add t) = some u) := (fun t u hu => cell_below hb4 (hsrc.out t u hu)); have HO4 := Lib.hid ho4; have HB4 := Lib.hid hb4; clear ho4 hb4) | (at_builtin; go_loud (refine wpList_append_own _ rfl (.tmp 22) (.tmp 26) 44 rfl w2.heap.size 48 i0 (.agg #[.int .i64 0, .slice none 0 0]) 2 32 Tryd.underlying44 hi0 hz0 hz1 hz2 rfl (by decide) v4 k ((flat2 q).take (k * 2)) (by simp [Act.eval, Act.put]) HO4.out A m (c0 - (k + 1)) news (by simp [Act.eval, Act.put, hA]) HNL.out hsrc4.out hone3.out (by unfold maxLen; omega) (by omega) hs4 ?_); intro v6 w6 ho6 hg6 _))
    obtain ⟨q1, hq1⟩ : ∃ q1, q1 = q.eraseIdx k := ⟨_, rfl⟩
    have hql : q1.length = q.length - 1 := by rw [hq1, List.length_eraseIdx, if_pos hk]
    have hb6 : RowKit.Below w2.heap.size w2 w6 := HB4.out.grown hg6 hs4 (fun j hj => (HO4.out.lt j hj).1)
    have ha6 : AsksAt w6 base v6 q1 := by
      refine ⟨?_, fun a ha => ((HR2.out.below hb6).2 a (List.mem_of_mem_eraseIdx (hq1 ▸ ha)))⟩
      have e1 : flat2 q1 = (flat2 q).take (k * 2) ++ news := by rw [hq1, List.eraseIdx_eq_take_drop_succ, flat2_append, flat2_take, flat2_drop, HN.out]
      have e2 : q1.length = k + m := by omega
      rw [e1, e2]
      exact own_mono ho6 (Nat.le_trans hbase hb2.size)
    have HA6 := Lib.hid ha6
    have HR6 := Lib.hid (HR2.out.below hb6)
    have HB6 := Lib.hid (below_from hb2 hb6)
    have HQ1 := Lib.hid hq1
    obtain ⟨A6, c6, rfl, hc6, hrow6⟩ := ha6.form
    have HROW6 := Lib.hid hrow6
    have hq1000 : q1.length ≤ 1000 := by omega
    have HQL := Lib.hid hql
    have HSUB : Hid (∀ a ∈ q1, a ∈ q) := Lib.hid (fun a ha => List.mem_of_mem_eraseIdx (HQ1.out ▸ ha))
    clear ha6 hb6 hq1 ho6 hg6 hrow6 hsrc4 HO4 HB4 hs4 hpre hone hone2 hone3 hsrc hA HN HNL hm h01 h02 hbz hql
    obtain ⟨j0, hj0, hjz0, hjz1, hjz2⟩ := info_parts infoInt
    go_loopw [9, 10] (fun o i wr => ∃ j : Nat, j ≤ q1.length ∧ i = .int .i64 j ∧ RowKit.Below w6.heap.size w6 wr ∧ wr.ownsRow w6.heap.size 3 1 o (toldR q q1 j).length (intsV (toldR q q1 j))) (fun _ i _ => q1.length - (intOf i).toNat)
    case atStart => exact ⟨0, by omega, rfl, Below.refl _ _, by simp [toldR, intsV], .inl ⟨rfl, rfl⟩⟩
    case round =>
      obtain ⟨j, hj, rfl, hbj, hoj⟩ := hrel
      have HOJ := Lib.hid hoj
      have htl := told_len q q1 j
      clear hoj
      by_cases hlt : j < q1.length
      · have HH1 := Lib.hid (rhas_any _ j q1 _ hq1000 hlt (HA6.out.below hbj))
        have HBJ := Lib.hid hbj
        obtain ⟨b6, rfl, hcell⟩ := HROW6.out (by omega)
        obtain ⟨x1, x2⟩ := hcell j hlt
        replace x1 := cell_below hbj x1
        obtain ⟨n, hn⟩ : ∃ n, n = q1[j].who := ⟨_, rfl⟩
        have hgd : (q1.getD j zR).who = n := by rw [hn]; simp [List.getD, hlt]
        obtain ⟨m, hmq, hfm⟩ := findR_present (HSUB.out q1[j] (List.getElem_mem hlt))
        rw [← hn] at x1 hfm
        have HFM := Lib.hid hfm
        have HGD := Lib.hid hgd
        clear hcell x2 hn hfm hgd hbj
        cases hc : canS (sigR q1) j with
        | false =>
          have HT : Hid (toldR q q1 (j + 1) = toldR q q1 j) := Lib.hid (told_no (by rw [hc]; rfl))
          have HC := Lib.hid hc
          clear hc
          go_wp2_with fail
          refine HH1.out.mono ?_
          rw [HC.out]
          rintro e w7 ⟨rfl, hb7⟩
          go_wp2_with fail
          go_roundw
          case rel => exact ⟨j + 1, by omega, by go_num, below_from HBJ.out hb7, by rw [HT.out]; exact own_stay HOJ.out hb7⟩
          case measure => simp [intOf]; omega
        | true =>
          cases hc2 : canS (sigR q) m with
          | true =>
            have HT : Hid (toldR q q1 (j + 1) = toldR q q1 j) := Lib.hid (told_no (by rw [hc, HGD.out, HFM.out, Int.toNat_natCast, hc2]; rfl))
            have HC := Lib.hid hc
            have HC2 := Lib.hid hc2
            clear hc hc2
            go_wp2_with fail
            refine HH1.out.mono ?_
            rw [HC.out]
            rintro e w7 ⟨rfl, hb7⟩
            replace x1 := cell_below hb7 x1
            go_wp2_with fail
            refine (rfind_any _ n q _ hq ((HR6.out.below HBJ.out).below hb7)).mono ?_
            rw [HFM.out]
            rintro e w8 ⟨rfl, hb8⟩
            go_wp2_with fail
            refine (rhas_any _ m q _ hq hmq (((HR6.out.below HBJ.out).below hb7).below hb8)).mono ?_
            rw [HC2.out]
            rintro e w9 ⟨rfl, hb9⟩
            have hb79 := below_from hb7 (below_from hb8 hb9)
            go_wp2_with fail
            go_roundw
            case rel => exact ⟨j + 1, by omega, by go_num, below_from HBJ.out hb79, by rw [HT.out]; exact own_stay HOJ.out hb79⟩
            case measure => simp [intOf]; omega
          | false =>
            have HT : Hid (toldR q q1 (j + 1) = toldR q q1 j ++ [n]) := Lib.hid (by rw [told_yes (by rw [hc, HGD.out, HFM.out, Int.toNat_natCast, hc2]; rfl), HGD.out])
            have HC := Lib.hid hc
            have HC2 := Lib.hid hc2
            clear hc hc2
            go_wp2_with fail
            refine HH1.out.mono ?_
            rw [HC.out]
            rintro e w7 ⟨rfl, hb7⟩
            replace x1 := cell_below hb7 x1
            go_wp2_with fail
            refine (rfind_any _ n q _ hq ((HR6.out.below HBJ.out).below hb7)).mono ?_
            rw [HFM.out]
            rintro e w8 ⟨rfl, hb8⟩
            replace x1 := cell_below hb8 x1
            go_wp2_with fail
            refine (rhas_any _ m q _ hq hmq (((HR6.out.below HBJ.out).below hb7).below hb8)).mono ?_
            rw [HC2.out]
            rintro e w9 ⟨rfl, hb9⟩
            replace x1 := cell_below hb9 x1
            have hb79 := below_from hb7 (below_from hb8 hb9)
            have HB9 := Lib.hid (below_from HBJ.out hb79)
            have HO9 := Lib.hid (own_stay HOJ.out hb79)
            have hsz9 : w6.heap.size ≤ w9.heap.size := HB9.out.size
            have hown0 : Hid ((w9.alloc (.cells #[.int .i64 n] 3)).ownsRow w6.heap.size 3 1 u9 (toldR q q1 j).length (intsV (toldR q q1 j))) := own_stay HO9.out (below_one _ _)
            clear hb7 hb8 hb9 hb79
            go_wp2_with (at_builtin; go_loud (refine wpList_append_own _ rfl (.tmp 49) (.tmp 55) 28 rfl w6.heap.size 3 j0 (.int .i64 0) 1 8 Tryd.underlying28 hj0 hjz0 hjz1 hjz2 rfl (by decide) u9 (toldR q q1 j).length (intsV (toldR q q1 j)) (by simp [Act.eval, Act.put]) hown0.out ⟨w9.heap.size, 0, none⟩ 1 1 [.int .i64 n] (by simp [Act.eval, Act.put]) rfl (cell_one_new _ _ _) (fun u hu => by (simp at hu; subst hu; rfl)) (by unfold maxLen; omega) (by omega) (by simp at hsz9 ⊢; omega) ?_); intro v10 w10 hown10 hg10 _)
            have hb10 : RowKit.Below w6.heap.size w6 w10 := (below_from HB9.out (below_one _ _)).grown hg10 (by have := HB9.out.size; simp; omega) (fun k hk => (hown0.out.lt k hk).1)
            go_roundw
            case rel => exact ⟨j + 1, by omega, by go_num, hb10, by rw [HT.out]; simpa [intsV] using hown10⟩
            case measure => simp [intOf]; omega
      · obtain rfl : j = q1.length := by omega
        go_wp2
        go_ret3
        refine .inr ⟨k, hk, HM.out, _, u9, rfl, ?_, ?_, below_from HB6.out hbj⟩
        · rw [← HQ1.out]; exact HA6.out.below hbj
        · rw [← HQ1.out, ← HQL.out]; exact own_mono HOJ.out HB6.out.size
end Go.Proofs.YtaaeobdihfbjfaaDoor
