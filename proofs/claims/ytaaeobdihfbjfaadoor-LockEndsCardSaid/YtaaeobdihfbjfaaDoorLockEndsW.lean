/-
  The law LockEnds, walked.
-/
import Derived.Test.YtaaeobdihfbjfaaDoorLockEndsK
import Derived.Deep.RegionLaw
import Derived.Deep.RegionLawGrows
set_option linter.unusedVariables false
set_option linter.unusedSimpArgs false
namespace Go.Proofs.YtaaeobdihfbjfaaDoor
open Go.RowKit Go.Maps
open Go.Proofs.YtaaeobdihfbjfaaDoorW.PrintWords (Kd ReadsRow)
/-- A row of whole numbers that is read. -/
def IntRow2 (w : World) (A : Option Addr) (l : List Int) : Prop := ∀ k (h : k < l.length), ∃ b off, A = some ⟨b, off, none⟩ ∧ w.cell? ⟨b, off + k, none⟩ = some (.int .i64 l[k])
theorem intRow2_of {w : World} {A : Option Addr} {l : List Int} (h : Kd.C (Kd.int .i64) w A l.length l) : IntRow2 w A l := by
  intro k hk
  obtain ⟨ad, e, hc⟩ := h.2.2 (by omega)
  obtain ⟨b, off, spot⟩ := ad
  have hcell : ∀ k (hk : k < l.length), w.cell? ((⟨b, off, spot⟩ : Addr).add k) = some (.int .i64 l[k]) := fun k hk => by
    obtain ⟨c, _, hK, hcell⟩ := hc k _ (List.getElem?_eq_getElem hk)
    have hK' : c = [.int .i64 l[k]] := hK
    subst hK'
    have := hcell 0 _ rfl
    simpa [Kd.int, Kd.scalar] using this
  have h0 := hcell k hk
  have hs : spot = none := by
    have := World.cell?_spot (hcell 0 (by omega))
    simpa [Addr.add] using this
  subst hs
  rw [Addr.add_lit] at h0
  exact ⟨b, off, e, h0⟩
theorem step_append_own {P : Program} {ops : Array Oper} {o : Oper} {a : Act} {w : World} {K : Act → World → Prop} {Q : Exit → Act → World → Prop} {E : Prop} (hg : o.guard = none) (s x : Operand) (t : TypeId)
    (ho : o.op = .call { callee := .builtin .append, args := #[s, x], argTypes := #[t, t] })
    (base : Nat) (e : TypeId) (i : TypeInfo) (z : Value) (size bytes : Nat) (ht : P.underlying t = some (.slice e)) (hi : P.info? e = some i) (hz : i.zero = some z)
    (hsize : i.size = size) (hby : i.bytes = bytes) (hzs : z.cells.size = size) (hsz : 0 < size)
    (v : Value) (n : Nat) (xs : List Value) (hs : a.eval s = v) (hown : w.ownsRow base e size v n xs)
    (ad : Addr) (m c : Nat) (news : List Value) (hx : a.eval x = .slice (some ad) m c) (hl : news.length = m * size) (hnews : ∀ j u, news[j]? = some u → w.cell? (ad.add j) = some u) (h1 : ∀ u ∈ news, u.oneCell' = true)
    (h63 : n + m ≤ maxLen) (hbytes : (n + m) * bytes ≤ 140737488355328) (hbase : base ≤ w.heap.size)
    (h : ∀ v' w', w'.ownsRow base e size v' (n + m) (xs ++ news) → w.grownBy w' v.ownBlock → K (a.put o.dst v') w') :
    if Region.wanted o (yielded ops a.tmps) = true then Oper.wp P o a w K Q else E := by
  have hw : Region.wanted o (yielded ops a.tmps) = true := by simp [Region.wanted, hg]
  rw [if_pos hw]
  exact wp_append_own w s x t ho base e i z size bytes ht hi hz hsize hby hzs hsz v n xs hs hown ad m c news hx hl hnews h1 h63 hbytes hbase (fun v' w' h2 h3 _ => h v' w' h2 h3)
theorem step_append_clone {P : Program} {w3 : World} {ops : Array Oper} {o : Oper} {a : Act} {K : Act → World → Prop} {Q : Exit → Act → World → Prop} {E : Prop} (hgd : o.guard = none) (s x : Operand) (t : TypeId)
    (ho : o.op = .call { callee := .builtin .append, args := #[s, x], argTypes := #[t, t] })
    (base : Nat) (e : TypeId) (i : TypeInfo) (z : Value) (size bytes : Nat) (ht : P.underlying t = some (.slice e)) (hi : P.info? e = some i) (hz : i.zero = some z)
    (hsize : i.size = size) (hby : i.bytes = bytes) (hzs : z.cells.size = size) (hsz : 0 < size)
    (v : Value) (n : Nat) (xs : List Value) (hs : a.eval s = .slice (some ⟨w3.heap.size, 0, none⟩) 0 0) (hx : a.eval x = v) (hown : w3.ownsRow base e size v n xs) (h1 : ∀ u ∈ xs, u.oneCell' = true)
    (h63 : n ≤ maxLen) (hbytes : n * bytes ≤ 140737488355328)
    (h : ∀ v' w', w'.ownsRow w3.heap.size e size v' n xs → Below w3.heap.size w3 w' → K (a.put o.dst v') w') :
    if Region.wanted o (yielded ops a.tmps) = true then Oper.wp P o a (w3.alloc (.cells #[] e)).drew K Q else E := by
  have hown0 : (w3.alloc (.cells #[] e)).drew.ownsRow w3.heap.size e size (.slice (some ⟨w3.heap.size, 0, none⟩) 0 0) 0 [] := World.ownsRow_lit w3 #[] 0 (Nat.le_refl _) (by simp) (by simp)
  have hb1 : Below w3.heap.size w3 (w3.alloc (.cells #[] e)).drew := (below_one w3 (.cells #[] e)).drew
  by_cases hn : 0 < n
  · obtain ⟨g, cap, rfl, _, hg⟩ := hown.form hn
    refine step_append_own hgd s x t ho w3.heap.size e i z size bytes ht hi hz hsize hby hzs hsz (.slice (some ⟨w3.heap.size, 0, none⟩) 0 0) 0 [] hs hown0 ⟨g, 0, none⟩ n cap xs hx hown.1 (fun j u hj => cell_below hb1 (hown.cells rfl j u hj)) h1 (by omega) (by simpa using hbytes) hb1.size ?_
    intro v' w' ho' hg'
    refine h v' w' (by simpa using ho') (hb1.grown hg' hb1.size (fun k hk => ?_))
    have : w3.heap.size = k := by simpa [Value.ownBlock] using hk
    omega
  · have h0 : n = 0 := by omega
    subst h0
    have hxs : xs = [] := List.length_eq_zero_iff.1 (by simpa using hown.1)
    subst hxs
    obtain ⟨A, c, rfl⟩ : ∃ A c, v = .slice A 0 c := by
      rcases hown.2 with ⟨rfl, _⟩ | ⟨g, cap, cur, rfl, _⟩
      · exact ⟨_, _, rfl⟩
      · exact ⟨_, _, rfl⟩
    exact step_append_nothing hgd s x t ho e i ht hi (some ⟨w3.heap.size, 0, none⟩) 0 0 hs (Nat.le_refl _) A c hx (h _ _ hown0 hb1)
theorem grow_one {w : World} {base : Nat} {v : Value} {l told : List Int} {t : Nat} {y : Int} (h : told.take (t + 1) = told.take t ++ [y]) (ho : w.ownsRow base 3 1 v ((l ++ told.take t).length + 1) (intsV (l ++ told.take t) ++ [.int .i64 y])) : w.ownsRow base 3 1 v (l ++ told.take (t + 1)).length (intsV (l ++ told.take (t + 1))) := by
  have e1 : (l ++ told.take (t + 1)).length = (l ++ told.take t).length + 1 := by rw [h, ← List.append_assoc, List.length_append, List.length_singleton]
  have e2 : intsV (l ++ told.take (t + 1)) = intsV (l ++ told.take t) ++ [.int .i64 y] := by rw [h, ← List.append_assoc]; simp [intsV]
  rw [e1, e2]
  exact ho
theorem nodup_le : ∀ {l r : List Int}, l.Nodup → (∀ x ∈ l, x ∈ r) → l.length ≤ r.length
  | [], r, _, _ => by simp
  | a :: l, r, hn, h => by
    rw [List.nodup_cons] at hn
    have ha := h a (by simp)
    have hl := nodup_le (r := r.erase a) hn.2 (fun x hx => by
      have hxa : x ≠ a := fun e => hn.1 (e ▸ hx)
      exact (List.mem_erase_of_ne hxa).2 (h x (List.mem_cons_of_mem _ hx)))
    have := List.length_erase_of_mem ha
    have hp : 0 < r.length := List.length_pos_of_mem ha
    simp only [List.length_cons]
    omega
theorem hrl_len {q0 q : List LRow} {hs : List Int} {hd : Int → Int} {n : Nat} (h : Ends q0 q hs hd n) : hs.length ≤ q.length := by
  have hsub : ∀ x ∈ hs, x ∈ q.map LRow.who := fun x hx => by
    obtain ⟨a, ha, hw, _⟩ := (hasQ_iff h.once).1 ((h.has x).1 hx)
    exact List.mem_map.2 ⟨a, ha, hw⟩
  have := nodup_le h.nd hsub
  simpa using this
set_option maxRecDepth 100000 in
set_option maxHeartbeats 16000000 in
theorem lockEnds_walk (v : Value) (l : List OpD) (pv : Value) (ks : List Int) (w : World) (hv : SliceArg kOp w v l) (hgood : ∀ o ∈ l, (Lit.int .i64 o.1).wf = true ∧ (Lit.int .i64 o.2.1).wf = true ∧ ∀ s ∈ o.2.2, s.size ≤ maxLen) (hpv : SliceArg (Kd.int .i64) w pv ks) (hks : ∀ x ∈ ks, (Lit.int .i64 x).wf = true) (hg : EnvM w) :
    Calls Tryd.prog 4 #[v, pv] w fun e w' => e = .returned (.bool true) ∧ Below w.heap.size w w' := by
  obtain ⟨A, c, rfl, hlc, hcm, hC⟩ := hv
  obtain ⟨AP, cP, rfl, hplc, hpcm, hPC⟩ := hpv
  have hmx : (maxLen : Nat) = 9223372036854775807 := rfl
  have hor := opRow_of hC
  have HPR := Lib.hid (intRow2_of hPC)
  have HK := Lib.hid (locks_any w hg)
  have HG := Lib.hid hg
  have HOR := Lib.hid hor
  have HWF := Lib.hid (fun o ho => (hgood o ho).2.1)
  have HFT := Lib.hid (fun W (hb : Below w.heap.size w W) => fits_any A c l W (hor.below hb) (by omega) (fun o ho => ⟨op_len2 hC o ho, fun s hs => (hgood o ho).2.2 s hs⟩))
  clear hC hPC hgood hg hor hks
  cases hft : fitsB l with
  | false =>
    have HF := Lib.hid hft
    clear hft
    go_enter Tryd.func4, Tryd.ntmps4
    go_wp2_with fail
    refine HK.out.mono ?_
    rintro e w1 ⟨rfl, hb1⟩
    go_wp2_with fail
    refine (HFT.out _ hb1).mono ?_
    rw [HF.out]
    rintro e w2 ⟨rfl, hb2⟩
    go_wp2_with fail
    go_ret
    exact ⟨rfl, below_from hb1 hb2⟩
  | true =>
    have HF := Lib.hid hft
    obtain ⟨hl90, hops⟩ := fits_yes2 hft
    have HOPS := Lib.hid hops
    clear hft hops
    have hmm := @run_makeMap Tryd.prog
    obtain ⟨j0, hj0, hjz0, hjz1, hjz2⟩ := info_parts infoInt
    go_enter Tryd.func4, Tryd.ntmps4
    go_wp2_with fail
    refine HK.out.mono ?_
    rintro e w1 ⟨rfl, hb1⟩
    go_wp2_with fail
    refine (HFT.out _ hb1).mono ?_
    rw [HF.out]
    rintro e w2 ⟨rfl, hb2⟩
    go_wp2_with fail
    have hb12 := below_from hb1 hb2
    refine (new_any w2 w.heap.size hb12.size).mono ?_
    rintro e w3 ⟨rfl, hb3, hl3⟩
    have hb13 := below_from hb12 hb3
    have HL3 := Lib.hid hl3
    have HB3 := Lib.hid hb13
    clear hl3 hb3 hb12 hb1 hb2
    have HST : Hid (AloneAt w (w3.alloc (.map #[] 0)) w.heap.size w2.heap.size w3.heap.size 0 (.slice none 0 0) [] (fun _ => none)) :=
      ⟨below_from HB3.out (below_one _ _), HL3.out.below (below_one _ _), mapAs_new _ _ _, ⟨rfl, .inl ⟨rfl, rfl⟩⟩, alone_start w, fun x hx => by cases hx⟩
    have hsz3 := HB3.out.size
    clear hb13
    go_wp2_with fail
    go_loopw [6, 38] (fun ov i wr => ∃ (k n : Nat) (q : List LRow) (m : Lit → Option Value), k ≤ l.length ∧ i = .int .i64 k ∧ n ≤ k ∧ AloneAt w wr w.heap.size w2.heap.size w3.heap.size n ov q m) (fun _ i _ => l.length - (intOf i).toNat)
    case atStart => exact ⟨0, 0, [], _, by omega, rfl, by omega, HST.out⟩
    case round =>
      obtain ⟨k, n, q, m, hk, rfl, hnk, hst⟩ := hrel
      have HS := Lib.hid hst
      have HBR := Lib.hid hst.bel
      have hq64 := hst.al.small
      clear hst
      by_cases hlt : k < l.length
      · obtain ⟨bb, off, rfl, hrow⟩ := HOR.out (by omega)
        obtain ⟨A1, c1, x1, x2, x3, x4, x5⟩ := hrow k hlt
        obtain ⟨o, ho⟩ : ∃ o, o = l[k] := ⟨_, rfl⟩
        have hol : o ∈ l := ho ▸ List.getElem_mem hlt
        have hpo := HOPS.out o hol
        have hwf := HWF.out o hol
        rw [← ho] at x1 x2 x3 x4 x5
        obtain ⟨kd, who, ps⟩ := o
        replace x1 := cell_below HBR.out x1
        replace x2 := cell_below HBR.out x2
        replace x3 := cell_below HBR.out x3
        have HT := Lib.hid x5
        have HWHO : Hid ((Lit.int .i64 who).wf = true) := Lib.hid hwf
        have hpl : ps.length ≤ 1000 := by have := hpo.1; simp only at this; omega
        have HZ : Hid (∀ s ∈ ps, s.size ≤ 140737488351232) := Lib.hid (fun s hs => by have := hpo.2 s hs; omega)
        have HRAW : Hid (RawAt w (.slice A1 ps.length c1) ps) := Lib.hid ⟨A1, c1, rfl, x5, hpo.2, hpo.1⟩
        simp only at x1 x2 x3
        clear hrow x5 ho hpo hol hwf
        have hbo := below_one wr (.cells #[.int .i64 kd, .int .i64 who, .slice A1 ps.length c1] 31)
        have HSO := Lib.hid (HS.out.below hbo HBR.out.size)
        have HOB : Hid ((wr.alloc (.cells #[.int .i64 kd, .int .i64 who, .slice A1 ps.length c1] 31)).heap[wr.heap.size]? = some (.cells #[.int .i64 kd, .int .i64 who, .slice A1 ps.length c1] 31 (0, 0))) := Lib.hid (heap_alloc_new wr _)
        have hmlt := HS.out.map.lt
        have hbsz := HSO.out.bel.size
        clear hbo
        cases hkd : (kd == 0) with
        | false =>
          go_wp2_with fail
          go_roundw
          case rel => exact ⟨k + 1, n, q, m, by omega, by go_num, by omega, HSO.out⟩
          case measure => simp [intOf]; omega
        | true =>
          go_wp2_with fail
          refine (ask_any w2.heap.size who A1 c1 ps q _ (base := w.heap.size) hq64 HSO.out.locks HSO.out.bel.size hpl (HT.out.below HSO.out.bel) HZ.out (HG.out.below HSO.out.bel)).mono ?_
          rintro e w5 ⟨er, v5, rfl, hve, hl5, hb5, hf5⟩
          have HOB5 := Lib.hid (block_frame hf5 HOB.out (by decide))
          have HM5 := Lib.hid (HSO.out.map.frame hf5)
          have HO5 := Lib.hid (hf5.own HSO.out.ord (by decide))
          have HB5 := Lib.hid (HSO.out.bel.trans hb5)
          have y1 : w5.cell? ⟨wr.heap.size, 1, none⟩ = some (.int .i64 who) := by simp [World.cell?, HOB5.out]
          have HL5 := Lib.hid hl5
          by_cases hz : (askErr q who ps).num = 0
          · rw [ask_nil hz] at hve
            obtain rfl : er = .nilIface := hve
            have HZR := Lib.hid hz
            have hsz5 := HB5.out.size
            have hml5 := HM5.out.lt
            have hown0 : Hid ((w5.alloc (.cells #[.int .i64 who] 3)).ownsRow w.heap.size 3 1 u6 q.length (intsV (q.map LRow.who))) := own_stay HO5.out (below_one _ _)
            clear hl5 hb5 hf5 hz
            go_wp2_with (at_builtin; go_loud (refine wpList_append_own _ rfl (.tmp 56) (.tmp 59) 28 rfl w.heap.size 3 j0 (.int .i64 0) 1 8 Tryd.underlying28 hj0 hjz0 hjz1 hjz2 rfl (by decide) u6 q.length (intsV (q.map LRow.who)) (by simp [Act.eval, Act.put]) hown0.out ⟨w5.heap.size, 0, none⟩ 1 1 [.int .i64 who] (by simp [Act.eval, Act.put]) rfl (cell_one_new _ _ _) (fun u hu => by (simp at hu; subst hu; rfl)) (by unfold maxLen; omega) (by omega) (by simp; omega) ?_); intro v8 w8 hown8 hg8 _; have hrow8 : ∀ j, u6.ownBlock = some j → w.heap.size ≤ j := (fun j hj => (hown0.out.lt j hj).1); have hm7 := (HM5.out.below (below_one w5 (.cells #[.int .i64 who] 3))); obtain ⟨es7, ck7, hmb7⟩ := hm7.isMap; have HM8 := Lib.hid (hm7.grown hg8 (own_ne hown0.out hmb7)); have HL8 := Lib.hid ((HL5.out.below (below_one w5 (.cells #[.int .i64 who] 3))).grown hown0.out (by decide) hg8).1; have HB8 := Lib.hid ((Below.trans HB5.out ((below_one w5 (.cells #[.int .i64 who] 3)).mono hsz5)).grown hg8 (by simp; omega) hrow8); have HOB8 : Hid (w8.heap[wr.heap.size]? = some (.cells #[.int .i64 kd, .int .i64 who, .slice A1 ps.length c1] 31 (0, 0))) := Lib.hid (op_grown (block_below HOB5.out (below_one w5 (.cells #[.int .i64 who] 3))) hown0.out (by decide) hg8); have z1 : w8.cell? ⟨wr.heap.size, 1, none⟩ = some (.int .i64 who) := (by simp [World.cell?, HOB8.out]); have z2 : w8.cell? ⟨wr.heap.size, 2, none⟩ = some (.slice A1 ps.length c1) := (by simp [World.cell?, HOB8.out]); obtain ⟨w9, hrun9, hm9, hg9⟩ := HM8.out.store intKeyed Tryd.underlying27 (by rw [hmx]; omega) (key := .int .i64 who) (.slice A1 ps.length c1) (keyOf_int_mk Tryd.underlying3 HWHO.out))
            obtain ⟨es8, ck8, hmb8⟩ := HM8.out.isMap
            have hsz8 := HB8.out.size
            have hb89 : Below w.heap.size w8 w9 := (Below.refl _ _).grown hg9 hsz8 (fun j hj => by cases hj; omega)
            have HO8 : Hid (w8.ownsRow w.heap.size 3 1 v8 (askNext q who ps v5).length (intsV ((askNext q who ps v5).map LRow.who))) := Lib.hid (by
              rw [(askNext_who v5 HZR.out).1, (askNext_who v5 HZR.out).2]
              simpa [intsV] using hown8)
            have HFIN : Hid (AloneAt w w9 w.heap.size w2.heap.size w3.heap.size (n + 1) v8 (askNext q who ps v5) (upd m (.int .i64 who) (.slice A1 ps.length c1))) := Lib.hid ⟨HB8.out.trans hb89, HL8.out.mapped hmb8 hg9, hm9, own_mapped HO8.out hmb8 hg9, HSO.out.al.ask HZR.out v5 _ HRAW.out, fun x hx => by
              rw [(askNext_who v5 HZR.out).1, List.mem_append, List.mem_singleton] at hx
              rcases hx with hx | rfl
              · exact HSO.out.wf x hx
              · exact HWHO.out⟩
            go_roundw
            case rel => exact ⟨k + 1, n + 1, _, _, by omega, by go_num, by omega, HFIN.out⟩
            case measure => simp [intOf]; omega
          · obtain ⟨et, ev, rfl⟩ := errV_some hve hz
            clear hve
            have hnx : askNext q who ps v5 = q := by rw [askNext, if_neg hz]
            rw [hnx] at hl5
            have HL5 := Lib.hid hl5
            clear hl5 hb5 hf5 hz hnx
            go_wp2_with fail
            go_roundw
            case rel => exact ⟨k + 1, n, q, m, by omega, by go_num, by omega, HB5.out, HL5.out, HM5.out, HO5.out, HSO.out.al, HSO.out.wf⟩
            case measure => simp [intOf]; omega
      · obtain rfl : k = l.length := by omega
        obtain ⟨W1, rfl⟩ : ∃ W1, W1 = wr := ⟨wr, rfl⟩
        obtain ⟨AO, cO, rfl, hcO⟩ := ints_form HS.out.ord
        have hn90 : n ≤ 90 := by omega
        have hW1 := HBR.out.size
        go_wp2_with fail
        go_loopw [12, 69] (fun hv i wq => ∃ j : Nat, j ≤ q.length ∧ i = .int .i64 j ∧ Below W1.heap.size W1 wq ∧ wq.ownsRow W1.heap.size 3 1 hv (hasL q j).length (intsV (hasL q j))) (fun _ i _ => q.length - (intOf i).toNat)
        case atStart => exact ⟨0, by omega, rfl, Below.refl _ _, ⟨rfl, .inl ⟨rfl, rfl⟩⟩⟩
        case round =>
          obtain ⟨j, hj, rfl, hbj, hoj⟩ := hrel
          have HBJ := Lib.hid hbj
          have HOJ := Lib.hid hoj
          have hll := hasL_len q j
          clear hoj hbj
          by_cases hjl : j < q.length
          · obtain ⟨ob, rfl, cx⟩ := who_cell HS.out.ord hjl
            replace cx := cell_below HBJ.out cx
            obtain ⟨x, hx⟩ : ∃ x, x = q[j].who := ⟨_, rfl⟩
            rw [← hx] at cx
            cases hh : hasQ q x with
            | false =>
              have HLN := Lib.hid (hasL_no hjl (by rw [← hx]; exact hh))
              have HH := Lib.hid hh
              clear hx hh
              go_wp2_with fail
              refine (has_any w2.heap.size x q _ (by omega) (HS.out.locks.below HBJ.out)).mono ?_
              rw [HH.out]
              rintro e w7 ⟨rfl, hb7⟩
              go_wp2_with fail
              go_roundw
              case rel => exact ⟨j + 1, by omega, by go_num, below_from HBJ.out hb7, by rw [HLN.out]; exact own_stay HOJ.out hb7⟩
              case measure => simp [intOf]; omega
            | true =>
              have HLN : Hid (hasL q (j + 1) = hasL q j ++ [x]) := Lib.hid (by rw [hasL_yes hjl (by rw [← hx]; exact hh), ← hx])
              have HH := Lib.hid hh
              clear hx hh
              go_wp2_with fail
              refine (has_any w2.heap.size x q _ (by omega) (HS.out.locks.below HBJ.out)).mono ?_
              rw [HH.out]
              rintro e w7 ⟨rfl, hb7⟩
              have HB7 := Lib.hid (below_from HBJ.out hb7)
              have hown7 : Hid ((w7.alloc (.cells #[.int .i64 x] 3)).ownsRow W1.heap.size 3 1 u12 (hasL q j).length (intsV (hasL q j))) := own_stay (own_stay HOJ.out hb7) (below_one _ _)
              have hsz7 := HB7.out.size
              clear hb7
              go_wp2_with (at_builtin; go_loud (refine wpList_append_own _ rfl (.tmp 76) (.tmp 78) 28 rfl W1.heap.size 3 j0 (.int .i64 0) 1 8 Tryd.underlying28 hj0 hjz0 hjz1 hjz2 rfl (by decide) u12 (hasL q j).length (intsV (hasL q j)) (by simp [Act.eval, Act.put]) hown7.out ⟨w7.heap.size, 0, none⟩ 1 1 [.int .i64 x] (by simp [Act.eval, Act.put]) rfl (cell_one_new _ _ _) (fun u hu => by (simp at hu; subst hu; rfl)) (by unfold maxLen; omega) (by omega) (by simp; omega) ?_); intro v9 w9 hown10 hg9 _)
              have hb9 : Below W1.heap.size W1 w9 := (below_from HB7.out (below_one w7 _)).grown hg9 (by simp; omega) (fun k hk => (hown7.out.lt k hk).1)
              go_roundw
              case rel => exact ⟨j + 1, by omega, by go_num, hb9, by rw [HLN.out]; simpa [intsV] using hown10⟩
              case measure => simp [intOf]; omega
          · obtain rfl : j = q.length := by omega
            obtain ⟨W2, rfl⟩ : ∃ W2, W2 = wr := ⟨wr, rfl⟩
            have hoj := HOJ.out
            rw [hasL_all] at hoj
            obtain ⟨hs, hhs⟩ : ∃ hs, hs = hs0 q := ⟨_, rfl⟩
            rw [← hhs] at hoj
            have hhl : hs.length ≤ 64 := by rw [hhs, ← hasL_all]; omega
            obtain ⟨AH, cH, rfl, hcH⟩ := ints_form hoj
            have HHS := Lib.hid hhs
            have HHO := Lib.hid hoj
            have HA2 := Lib.hid (HS.out.below HBJ.out hW1)
            have hW2 := HBJ.out.size
            have HMW := Lib.hid (fun x hx => HS.out.wf x (hs0_mem (hhs ▸ hx)))
            have hne2 : w3.heap.size ≠ W2.heap.size := by have := HA2.out.map.lt; omega
            clear hoj hhs HOJ
            go_wp2_with fail
            go_loopw [84] (fun i wq => ∃ (j : Nat) (mh : Lit → Option Value), j ≤ hs.length ∧ i = .int .i64 j ∧ MapAs wq Tryd.prog 3 W2.heap.size j mh ∧ Reads mh (hdT (fun _ => 0) 0 hs j) ∧ (W2.alloc (.map #[] 0)).grownBy wq (some W2.heap.size)) (fun i _ => hs.length - (intOf i).toNat)
            case atStart => exact ⟨0, fun _ => none, by omega, rfl, mapAs_new _ _ _, reads_none, ⟨rfl, rfl, rfl, Nat.le_refl _, fun _ _ _ => rfl⟩⟩
            case round =>
              obtain ⟨j, mh, hj, rfl, hmj, hrd, hgr⟩ := hrel
              have HMJ := Lib.hid hmj
              have HRD := Lib.hid hrd
              have HGR := Lib.hid hgr
              have HHJ := Lib.hid (own_mapped (own_stay HHO.out (below_one W2 (.map #[] 0))) (heap_alloc_new W2 (.map #[] 0)) hgr)
              clear hmj hrd hgr
              by_cases hjl : j < hs.length
              · obtain ⟨hb, rfl, cx⟩ := int_at HHJ.out hjl
                obtain ⟨x, hx⟩ : ∃ x, x = hs[j] := ⟨_, rfl⟩
                rw [← hx] at cx
                have hwx := HMW.out x (hx ▸ List.getElem_mem hjl)
                have hxd : x = hs.getD j 0 := by rw [hx]; simp [List.getD, hjl]
                obtain ⟨w8, hrun8, hm8, hg8⟩ := HMJ.out.store intKeyed Tryd.underlying41 (by rw [hmx]; omega) (key := .int .i64 x) (.int .i64 ((j : Int) + 1)) (keyOf_int_mk Tryd.underlying3 hwx)
                have hput := HRD.out.put hxd
                have e0 : (0 : Int) + (j : Int) + 1 = (j : Int) + 1 := by omega
                rw [e0] at hput
                have HP := Lib.hid hput
                have HM8 := Lib.hid hm8
                have HG8 := Lib.hid (HGR.out.trans hg8)
                clear hx hput hm8 hg8 hwx hxd
                go_wp2_with fail
                go_roundw
                case rel => exact ⟨j + 1, _, by omega, by go_num, HM8.out, HP.out, HG8.out⟩
                case measure => simp [intOf]; omega
              · obtain rfl : j = hs.length := by omega
                obtain ⟨W4, rfl⟩ : ∃ W4, W4 = wr := ⟨wr, rfl⟩
                have HE0 : Hid (EndsAt w W1 W4 w.heap.size w2.heap.size w3.heap.size W2.heap.size n hs.length (.slice AO q.length cO) (.slice AH hs.length cH) q q m mh hs (hdT (fun _ => 0) 0 hs hs.length) hs.length) := by
                  have h3 : AloneAt w (W2.alloc (.map #[] 0)) w.heap.size w2.heap.size w3.heap.size n (.slice AO q.length cO) q m := HA2.out.below (below_one _ _) (Nat.le_trans hW1 hW2)
                  have h4 := h3.mapped (heap_alloc_new W2 (.map #[] 0)) hne2 (Nat.le_trans hW1 hW2) (by simp; omega) HGR.out
                  refine ⟨h4.bel, h4.locks, h4.map, HS.out.ord, ?_, HMJ.out, HHJ.out, ?_, HRD.out⟩
                  · exact ((KeepI.of_below HBJ.out).trans (KeepI.of_below (below_one _ _))).trans (KeepI.of_map (heap_alloc_new W2 (.map #[] 0)) HGR.out)
                  · have := ends_start HS.out.al.sound HS.out.al.once
                    rw [← HHS.out] at this
                    exact this
                have hq0 : hs.length ≤ q.length := by rw [HHS.out, ← hasL_all]; exact hasL_len q q.length
                go_wp2_with fail
                go_loopw [12, 18, 19] (fun hv nv kv wq => ∃ (kk nn n2 : Nat) (q' : List LRow) (hs' : List Int) (hd : Int → Int) (mh' : Lit → Option Value), kv = .int .i64 kk ∧ nv = .int .i64 nn ∧ kk + q'.length ≤ 64 ∧ n2 ≤ nn ∧ EndsAt w W1 wq w.heap.size w2.heap.size w3.heap.size W2.heap.size n n2 (.slice AO q.length cO) hv q q' m mh' hs' hd nn) (fun _ _ kv _ => 64 - (intOf kv).toNat)
                case atStart => exact ⟨0, hs.length, hs.length, q, hs, _, mh, rfl, rfl, by omega, by omega, HE0.out⟩
                case round =>
                  obtain ⟨kk, nn, n2, q', hs', hd, mh', rfl, rfl, hkk, hn2, hen⟩ := hrel
                  have HE := Lib.hid hen
                  have hnn := ends_small hen.ends
                  have hbz := hen.bel.size
                  obtain ⟨AX, cX, rfl, hcX⟩ := ints_form hen.hrow
                  clear hen
                  by_cases hpos : 0 < hs'.length
                  · have d0 : decide ((0 : Int) < (hs'.length : Int)) = true := decide_eq_true (by omega)
                    go_upto_region 34 with fail
                    go_cut [20] from 96 to 155 (fun av wc => av = .int .i64 0 ∧ wc = wr)
                    case first =>
                      go_wp2_with fail
                      go_meet
                      case rel => exact ⟨rfl, rfl⟩
                    case rest =>
                      obtain ⟨rfl, rfl⟩ := hcut
                      obtain ⟨W5, rfl⟩ : ∃ W5, W5 = wc := ⟨wc, rfl⟩
                      go_step
                      apply wp_seq_k
                      intro KK hKK
                      go_cut [20] from 96 to 155 (fun av wc => ∃ a : Nat, a < hs'.length ∧ av = .int .i64 a ∧ Below W5.heap.size W5 wc)
                      case first =>
                        by_cases hkp : kk < ks.length
                        · have d1 : decide ((kk : Int) < (ks.length : Int)) = true := decide_eq_true (by omega)
                          obtain ⟨pb, poff, rfl, cx⟩ := HPR.out kk hkp
                          replace cx := cell_below HE.out.bel cx
                          obtain ⟨x, hx⟩ : ∃ x, x = ks[kk] := ⟨_, rfl⟩
                          rw [← hx] at cx
                          clear hx
                          by_cases hx0 : 0 ≤ x
                          · obtain ⟨y, rfl⟩ : ∃ y : Nat, x = y := ⟨x.toNat, by omega⟩
                            have d2 : decide ((0 : Int) ≤ (y : Int)) = true := decide_eq_true hx0
                            have d3 : ((hs'.length : Int) == 0) = false := beq_eq_false_iff_ne.2 (by omega)
                            go_wp2_with fail
                            go_meet
                            case rel => exact ⟨y % hs'.length, Nat.mod_lt _ hpos, by simp, Below.refl _ _⟩
                          · have d2 : decide ((0 : Int) ≤ x) = false := decide_eq_false hx0
                            go_wp2_with fail
                            go_meet
                            case rel => exact ⟨0, hpos, rfl, Below.refl _ _⟩
                        · have d1 : decide ((kk : Int) < (ks.length : Int)) = false := decide_eq_false (by omega)
                          go_wp2_with fail
                          go_meet
                          case rel => exact ⟨0, hpos, rfl, Below.refl _ _⟩
                      case rest =>
                        obtain ⟨a, hal, rfl, hbc⟩ := hcut
                        obtain ⟨W6, rfl⟩ : ∃ W6, W6 = wc := ⟨wc, rfl⟩
                        have HBC := Lib.hid hbc
                        have hrow6 := own_stay HE.out.hrow hbc
                        obtain ⟨xb, rfl, cx⟩ := int_at hrow6 hal
                        have HR6 := Lib.hid hrow6
                        obtain ⟨hre, hrl, hrt, hE'⟩ := HE.out.ends.rel HS.out.al.once hal
                        have HM1 := Lib.hid (show ∀ y ∈ hs'[a] :: [], True from fun _ _ => trivial)
                        obtain ⟨x, hx⟩ : ∃ x, x = hs'[a] := ⟨_, rfl⟩
                        rw [← hx] at cx hre hrl hrt hE'
                        have hW16 := HE.out.keep.1
                        have hsz6 := HBC.out.size
                        have hq'64 : q'.length ≤ 64 := by omega
                        have HRL := Lib.hid hrl
                        have HEE := Lib.hid hE'
                        have HRE := Lib.hid hre
                        clear hx hbc hrow6 hrl hE' hre HM1
                        go_wp2_with fail
                        refine (release_any w2.heap.size x q' _ (base := w.heap.size) hq'64 (HE.out.locks.below HBC.out) (by omega)).mono ?_
                        rintro e w5 ⟨v5, rfl, ho5, hl5, hb5, hf5⟩
                        rw [HRE.out]
                        obtain ⟨told, htold⟩ : ∃ told, told = (relQ q' x).2.1 := ⟨_, rfl⟩
                        rw [← htold] at ho5 hrt
                        obtain ⟨AT, cT, rfl, hcT⟩ := ints_form ho5
                        have HTD := Lib.hid htold
                        have HO5 := Lib.hid ho5
                        have HL5 := Lib.hid hl5
                        have HB5 := Lib.hid ((HE.out.bel.trans (HBC.out.mono hbz)).trans hb5)
                        have HM5 := Lib.hid ((HE.out.map.below HBC.out).frame hf5)
                        have HH5 := Lib.hid ((HE.out.hmap.below HBC.out).frame hf5)
                        have HR5 := Lib.hid (hf5.own HR6.out (by decide))
                        have HK5 := Lib.hid ((HE.out.keep.trans (KeepI.of_below HBC.out)).trans (KeepI.of_frame hf5))
                        have hsz5 := HB5.out.size
                        have hW15 := HK5.out.1
                        have hhl : hs'.length ≤ 1000 := by
                          have h1 := hrl_len HE.out.ends
                          omega
                        have hpre : Hid (w5.ownsRow W1.heap.size 3 1 (.slice (some ⟨xb, 0, none⟩) a cX) a ((intsV hs').take a)) := own_prefix1 HR5.out (by omega)
                        obtain ⟨A7, hA7, hsrc7⟩ := rest_src HR5.out hal
                        have HSR7 := Lib.hid hsrc7
                        obtain ⟨mm, hmm2⟩ : ∃ mm, hs'.length - (a + 1) = mm := ⟨_, rfl⟩
                        have hnl : ((intsV hs').drop (a + 1)).length = mm := by rw [List.length_drop, ← hmm2]; simp [intsV]
                        have HNL := Lib.hid hnl
                        have hone : Hid (∀ u ∈ intsV hs', u.oneCell' = true) := fun u hu => by
                          obtain ⟨y, _, rfl⟩ := List.mem_map.1 hu
                          rfl
                        have h01 : (0 : Int) ≤ (a : Int) + 1 := by omega
                        have h03 : (a : Int) ≤ (cX : Int) := by omega
                        have hwrap : IntKind.i64.wrap ((a : Int) + 1) = (a : Int) + 1 := by rw [IntKind.wrap_i64]; omega
                        have htn : ((a : Int) + 1).toNat = a + 1 := by omega
                        have h02 : (a : Int) + 1 ≤ (hs'.length : Int) := by omega
                        clear ho5 hl5 hb5 hf5 htold hsrc7 hnl
                        go_wp2_with fail
                        go_region_law (first | (refine step_append_clone rfl (.tmp 130) (.tmp 133) 28 rfl W1.heap.size 3 j0 (.int .i64 0) 1 8 Tryd.underlying28 hj0 hjz0 hjz1 hjz2 rfl (by decide) (.slice (some ⟨xb, 0, none⟩) a cX) a ((intsV hs').take a) (by simp [Act.eval, Act.put]) (by simp [Act.eval, Act.put]) hpre.out (fun u hu => hone.out u (List.mem_of_mem_take hu)) (by unfold maxLen; omega) (by omega) ?_; intro v8 w8 ho8 hb8; have hs8 := hb8.size; have hsrc8 : Hid (∀ t u, ((intsV hs').drop (a + 1))[t]? = some u → w8.cell? (A7.add t) = some u) := (fun t u hu => cell_below hb8 (HSR7.out t u hu)); have HO8 := Lib.hid ho8; have HB8 := Lib.hid hb8; clear ho8 hb8) | (refine step_append_own rfl (.tmp 134) (.tmp 138) 28 rfl w5.heap.size 3 j0 (.int .i64 0) 1 8 Tryd.underlying28 hj0 hjz0 hjz1 hjz2 rfl (by decide) v8 a ((intsV hs').take a) (by simp [Act.eval, Act.put]) HO8.out A7 mm (cX - (a + 1)) ((intsV hs').drop (a + 1)) (by simp [Act.eval, Act.put, hA7]) (by rw [HNL.out, Nat.mul_one]) hsrc8.out (fun u hu => hone.out u (List.mem_of_mem_drop hu)) (by unfold maxLen; omega) (by omega) hs8 ?_; intro v10 w10 ho10 hg10))
                        obtain ⟨hs1, hhs1⟩ : ∃ hs1, hs1 = hs'.eraseIdx a := ⟨_, rfl⟩
                        have hl1 : hs1.length = a + mm := by rw [hhs1, List.length_eraseIdx, if_pos hal]; omega
                        have hi1 : intsV hs1 = (intsV hs').take a ++ (intsV hs').drop (a + 1) := by
                          rw [hhs1, List.eraseIdx_eq_take_drop_succ]
                          simp [intsV]
                        have hb10 : Below w5.heap.size w5 w10 := HB8.out.grown hg10 hs8 (fun k hk => (HO8.out.lt k hk).1)
                        have HO10 : Hid (w10.ownsRow w5.heap.size 3 1 v10 hs1.length (intsV hs1)) := Lib.hid (by rw [hl1, hi1]; exact ho10)
                        have HB10 := Lib.hid hb10
                        have HHS1 := Lib.hid hhs1
                        have HMID : Hid (EndsMid w w5 w10 w.heap.size w2.heap.size w3.heap.size W2.heap.size n n2 v10 (relQ q' x).1 m mh' (hs1 ++ told.take 0) (hdT hd nn told 0)) := Lib.hid ⟨HB5.out.trans (hb10.mono hsz5), HL5.out.below hb10, HM5.out.below hb10, KeepI.of_below hb10, HH5.out.below hb10, by simpa using HO10.out, HE.out.reads⟩
                        have htl : told.length ≤ 64 := by omega
                        have hnn90 : nn ≤ 1000 := by omega
                        have hlh1 : hs1.length ≤ 1000 := by omega
                        have hHM := Lib.hid (fun y hy => told_wf HS.out.wf HE.out.ends (y := y) (by rw [← HTD.out]; exact hy))
                        clear hhs1 hi1 hb10 ho10 hg10 HO8 HB8 hs8 hsrc8 hwrap htn h01 h02 h03 hA7 HSR7 HNL hone hpre hmm2
                        go_wp2_with fail
                        go_loopw [12, 18, 142] (fun hv nv i wq => ∃ (t : Nat) (mt : Lit → Option Value), t ≤ told.length ∧ nv = .int .i64 ((nn : Int) + (t : Int)) ∧ i = .int .i64 t ∧ EndsMid w w5 wq w.heap.size w2.heap.size w3.heap.size W2.heap.size n (n2 + t) hv (relQ q' x).1 m mt (hs1 ++ told.take t) (hdT hd nn told t)) (fun _ _ i _ => told.length - (intOf i).toNat)
                        case atStart => exact ⟨0, mh', by omega, by simp, rfl, HMID.out⟩
                        case round =>
                          obtain ⟨t, mt, ht, rfl, rfl, hmd⟩ := hrel
                          have HMD := Lib.hid hmd
                          clear hmd
                          by_cases htlt : t < told.length
                          · obtain ⟨tb, rfl, cy⟩ := int_at (own_keep HO5.out HMD.out.keep) htlt
                            obtain ⟨y, hy⟩ : ∃ y, y = told[t] := ⟨_, rfl⟩
                            rw [← hy] at cy
                            have hyd : y = told.getD t 0 := by rw [hy]; simp [List.getD, htlt]
                            have hwy := hHM.out y (hy ▸ List.getElem_mem htlt)
                            have hyt : told.take (t + 1) = told.take t ++ [y] := by rw [List.take_succ_eq_append_getElem htlt, hy]
                            have HYT := Lib.hid hyt
                            obtain ⟨w8, hrun8, hm8, hg8⟩ := HMD.out.hmap.store intKeyed Tryd.underlying41 (by rw [hmx]; omega) (key := .int .i64 y) (.int .i64 ((nn : Int) + (t : Int) + 1)) (keyOf_int_mk Tryd.underlying3 hwy)
                            have HP := Lib.hid (HMD.out.reads.put hyd)
                            obtain ⟨es8, ck8, hmb8⟩ := HMD.out.hmap.isMap
                            have hszq := HMD.out.bel.size
                            have hk5 := HMD.out.keep.1
                            have hmid8 := HMD.out.stored hmb8 hne2 (by omega) hszq hm8 hg8
                            have HD8 := Lib.hid hmid8
                            have hsz8 := hmid8.bel.size
                            have hk58 := hmid8.keep.1
                            have hown8 : Hid ((w8.alloc (.cells #[.int .i64 y] 3)).ownsRow w5.heap.size 3 1 u12 (hs1 ++ told.take t).length (intsV (hs1 ++ told.take t))) := own_stay hmid8.hrow (below_one _ _)
                            have hll : (hs1 ++ told.take t).length ≤ 2000 := by simp; omega
                            clear hy hyd hwy hyt hm8 hg8 hmb8 hmid8
                            go_wp2_with (at_builtin; go_loud (refine wpList_append_own _ rfl (.tmp 151) (.tmp 153) 28 rfl w5.heap.size 3 j0 (.int .i64 0) 1 8 Tryd.underlying28 hj0 hjz0 hjz1 hjz2 rfl (by decide) u12 (hs1 ++ told.take t).length (intsV (hs1 ++ told.take t)) (by simp [Act.eval, Act.put]) hown8.out ⟨w8.heap.size, 0, none⟩ 1 1 [.int .i64 y] (by simp [Act.eval, Act.put]) rfl (cell_one_new _ _ _) (fun u hu => by (simp at hu; subst hu; rfl)) (by unfold maxLen; omega) (by omega) (by simp; omega) ?_); intro v9 w9 hown9 hg9 _)
                            have hfin := (HD8.out.laid (.cells #[.int .i64 y] 3) hsz8).grew hown8.out (by simp; omega) (by simp; omega) hsz5 hg9 (ys := hs1 ++ told.take (t + 1)) (grow_one HYT.out hown9)
                            have HFI := Lib.hid hfin
                            clear hfin
                            go_roundw
                            case rel => exact ⟨t + 1, _, by omega, by go_num, by go_num, ⟨HFI.out.bel, HFI.out.locks, HFI.out.map, HFI.out.keep, HFI.out.hmap, HFI.out.hrow, HP.out⟩⟩
                            case measure => simp [intOf]; omega
                          · obtain rfl : t = told.length := by omega
                            have HKW := Lib.hid (HK5.out.trans HMD.out.keep)
                            have hrw := HMD.out.hrow
                            rw [List.take_length] at hrw
                            have HRW := Lib.hid (own_mono hrw hW15)
                            clear hrw
                            go_wp2_with fail
                            go_roundw
                            case rel => exact ⟨kk + 1, nn + told.length, n2 + told.length, (relQ q' x).1, hs1 ++ told, _, mt, by go_num, by go_num, by have := HRL.out; omega, by omega, ⟨HMD.out.bel, HMD.out.locks, HMD.out.map, HE.out.ord, HKW.out, HMD.out.hmap, HRW.out, by have := HEE.out; rw [← HTD.out, ← HHS1.out] at this; exact this, HMD.out.reads⟩⟩
                            case measure => have := HRL.out; simp [intOf]; omega
                  · have h0 : hs' = [] := List.length_eq_zero_iff.1 (by omega)
                    subst h0
                    obtain ⟨hqe, hne⟩ := HE.out.ends.done
                    subst hqe
                    subst hne
                    obtain ⟨W7, rfl⟩ : ∃ W7, W7 = wr := ⟨wr, rfl⟩
                    have HO7 := Lib.hid (own_keep HE.out.ord HE.out.keep)
                    go_wp2_with fail
                    have hlen1 : Calls Tryd.prog 22 #[.pointer (some ⟨w2.heap.size, 0, none⟩)] W7 fun e w' => e = .returned (.int .i64 0) ∧ w' = W7 := len_any w2.heap.size [] _ HE.out.locks
                    refine hlen1.mono ?_
                    rintro e w8 ⟨rfl, h8⟩
                    replace h8 := h8.symm
                    subst h8
                    go_wp2_with fail
                    go_loopw [167] (fun i wq => ∃ i' : Nat, i' ≤ q.length ∧ i = .int .i64 i' ∧ Below W7.heap.size W7 wq) (fun i _ => q.length - (intOf i).toNat)
                    case atStart => exact ⟨0, by omega, rfl, Below.refl _ _⟩
                    case round =>
                      obtain ⟨i, hi, rfl, hbq⟩ := hrel
                      have HBQ := Lib.hid hbq
                      clear hbq
                      by_cases hil : i < q.length
                      · obtain ⟨ob, rfl, cA⟩ := who_cell HO7.out hil
                        replace cA := cell_below HBQ.out cA
                        obtain ⟨xa, hxa⟩ : ∃ xa, xa = q[i].who := ⟨_, rfl⟩
                        rw [← hxa] at cA
                        have HXA := Lib.hid hxa
                        have hic : (i : Int) ≤ (cO : Int) := by omega
                        clear hxa
                        go_wp2_with fail
                        go_loopw [176] (fun j wz => ∃ j' : Nat, j' ≤ i ∧ j = .int .i64 j' ∧ Below W7.heap.size W7 wz) (fun j _ => i - (intOf j).toNat)
                        case atStart => exact ⟨0, by omega, rfl, HBQ.out⟩
                        case round =>
                          obtain ⟨j, hj, rfl, hbz'⟩ := hrel
                          have HBZ := Lib.hid hbz'
                          clear hbz'
                          by_cases hjl : j < i
                          · have hjq : j < q.length := by omega
                            obtain ⟨ob', hob', cB⟩ := who_cell HO7.out hjq
                            have hoe : ob = ob' := by injection hob' with h; injection h
                            subst hoe
                            replace cB := cell_below HBZ.out cB
                            obtain ⟨xb, hxb⟩ : ∃ xb, xb = q[j].who := ⟨_, rfl⟩
                            rw [← hxb] at cB
                            have HXB := Lib.hid hxb
                            clear hxb
                            obtain ⟨vA, psA, hmA, ⟨AA, cAA, rfl, tA, zA, lA⟩, memA⟩ := HS.out.al.raw i hil
                            obtain ⟨vB, psB, hmB, ⟨AB, cAB, rfl, tB, zB, lB⟩, memB⟩ := HS.out.al.raw j hjq
                            rw [← HXA.out] at hmA
                            rw [← HXB.out] at hmB
                            have HWA := Lib.hid (HS.out.wf xa (List.mem_map.2 ⟨q[i], List.getElem_mem hil, HXA.out.symm⟩))
                            have HWB := Lib.hid (HS.out.wf xb (List.mem_map.2 ⟨q[j], List.getElem_mem hjq, HXB.out.symm⟩))
                            have HKA : Hid (∀ W, Below W7.heap.size W7 W → (Instr.lookup 27 (.map (some w3.heap.size)) (.int .i64 xa) false).run Tryd.prog W = .ok (.slice AA psA.length cAA) W) := Lib.hid (fun W hW => by
                              have := (HE.out.map.below hW).look intKeyed Tryd.underlying27 (zeroTexts _) (keyOf_int_mk Tryd.underlying3 HWA.out)
                              rw [this, hmA]
                              rfl)
                            have HKB : Hid (∀ W, Below W7.heap.size W7 W → (Instr.lookup 27 (.map (some w3.heap.size)) (.int .i64 xb) false).run Tryd.prog W = .ok (.slice AB psB.length cAB) W) := Lib.hid (fun W hW => by
                              have := (HE.out.map.below hW).look intKeyed Tryd.underlying27 (zeroTexts _) (keyOf_int_mk Tryd.underlying3 HWB.out)
                              rw [this, hmB]
                              rfl)
                            have HHA : Hid (∀ W, Below W7.heap.size W7 W → (Instr.lookup 41 (.map (some W2.heap.size)) (.int .i64 xa) false).run Tryd.prog W = .ok (.int .i64 (hd xa)) W) := Lib.hid (fun W hW => by
                              have := (HE.out.hmap.below hW).look intKeyed Tryd.underlying41 (intZero _) (keyOf_int_mk Tryd.underlying3 HWA.out)
                              rw [this, HE.out.reads xa])
                            have HHB : Hid (∀ W, Below W7.heap.size W7 W → (Instr.lookup 41 (.map (some W2.heap.size)) (.int .i64 xb) false).run Tryd.prog W = .ok (.int .i64 (hd xb)) W) := Lib.hid (fun W hW => by
                              have := (HE.out.hmap.below hW).look intKeyed Tryd.underlying41 (intZero _) (keyOf_int_mk Tryd.underlying3 HWB.out)
                              rw [this, HE.out.reads xb])
                            have HCM : Hid (∀ W, Below W7.heap.size W7 W → Calls Tryd.prog 21 #[.slice AA psA.length cAA, .slice AB psB.length cAB] W fun e w' => e = .returned (.bool (meetB psA psB)) ∧ w' = W) := Lib.hid (fun W hW => by
                              have hwW : Below w.heap.size w W := HE.out.bel.trans (hW.mono hbz)
                              exact common_any AA AB cAA cAB psA psB W (tA.below hwW) (tB.below hwW) (fun s hs => by have := zA s hs; omega) (fun s hs => by have := zB s hs; omega) (by omega) (by omega))
                            have e1 := HKA.out _ HBZ.out
                            have e2 := HKB.out _ HBZ.out
                            cases hm : meetB psA psB with
                            | false =>
                              have HM := Lib.hid hm
                              clear hm hmA hmB memA memB tA zA lA tB zB lB
                              go_wp2_with fail
                              refine (HCM.out _ HBZ.out).mono ?_
                              rw [HM.out]
                              rintro e w9 ⟨rfl, rfl⟩
                              go_wp2_with fail
                              go_roundw
                              case rel => exact ⟨j + 1, by omega, by go_num, HBZ.out⟩
                              case measure => simp [intOf]; omega
                            | true =>
                              have hlt2 := HE.out.ends.last hjl hil (by rw [meetB_comm, ← meetB_congr memA memB]; exact hm)
                              rw [← HXA.out, ← HXB.out] at hlt2
                              have dg : decide (hd xa ≤ hd xb) = false := decide_eq_false (by omega)
                              have e3 := HHA.out _ HBZ.out
                              have e4 := HHB.out _ HBZ.out
                              have HM := Lib.hid hm
                              clear hm hmA hmB memA memB tA zA lA tB zB lB hlt2
                              go_wp2_with fail
                              refine (HCM.out _ HBZ.out).mono ?_
                              rw [HM.out]
                              rintro e w9 ⟨rfl, h9⟩
                              replace h9 := h9.symm
                              subst h9
                              go_wp2_with fail
                              go_roundw
                              case rel => exact ⟨j + 1, by omega, by go_num, HBZ.out⟩
                              case measure => simp [intOf]; omega
                          · obtain rfl : j = i := by omega
                            go_wp2_with fail
                            go_roundw
                            case rel => exact ⟨j + 1, by omega, by go_num, HBZ.out⟩
                            case measure => simp [intOf]; omega
                      · obtain rfl : i = q.length := by omega
                        go_wp2_with fail
                        go_ret
                        exact ⟨rfl, (HE.out.bel).trans (HBQ.out.mono hbz)⟩
end Go.Proofs.YtaaeobdihfbjfaaDoor
