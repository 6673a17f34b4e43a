/-
  The law LockAlone, walked.
-/
import Derived.Test.YtaaeobdihfbjfaaDoorLockAloneP
import Derived.Test.YtaaeobdihfbjfaaDoorLockFits
import Derived.Deep.Cut
import Derived.Deep.CutRange
set_option linter.unusedVariables false
set_option linter.unusedSimpArgs false
namespace Go.Proofs.YtaaeobdihfbjfaaDoor
open Go.RowKit Go.Maps
open Go.Proofs.YtaaeobdihfbjfaaDoorW.PrintWords (Kd ReadsRow)
theorem MapAs.frame {w w' : World} {P : Program} {k : TypeId} {b n : Nat} {m : Lit → Option Value} {ts : List Nat} (h : MapAs w P k b n m) (hf : FrameT ts w w') : MapAs w' P k b n m := by
  refine h.block (hf.block b h.lt (fun cells t hc => ?_))
  obtain ⟨D, ⟨es, clock, h1, _⟩, _⟩ := h
  rw [h1] at hc
  cases hc
theorem MapAs.isMap {w : World} {P : Program} {k : TypeId} {b n : Nat} {m : Lit → Option Value} (h : MapAs w P k b n m) : ∃ es clock, w.heap[b]? = some (.map es clock) := by
  obtain ⟨D, ⟨es, clock, h1, _⟩, _⟩ := h
  exact ⟨es, clock, h1⟩
/-- What isn't the map's block stays while the map is written. -/
theorem own_mapped {w w' : World} {base n size b : Nat} {e : TypeId} {v : Value} {xs : List Value} {es : Array MapEntry} {clock : Nat} (h : w.ownsRow base e size v n xs) (hb : w.heap[b]? = some (.map es clock)) (hg : w.grownBy w' (some b)) : w'.ownsRow base e size v n xs := by
  obtain ⟨h1, h2⟩ := h
  refine ⟨h1, ?_⟩
  rcases h2 with h2 | ⟨g, cap, cur, rfl, hbb, hh, r⟩
  · exact .inl h2
  · refine .inr ⟨g, cap, cur, rfl, hbb, (hg.block g (lt_of_block hh) (fun e => ?_)).trans hh, r⟩
    have : g = b := Option.some.inj e
    rw [this, hb] at hh
    cases hh
theorem LocksAt.mapped {w w' : World} {base g b : Nat} {q : List LRow} {es : Array MapEntry} {clock : Nat} (h : LocksAt w base g q) (hb : w.heap[b]? = some (.map es clock)) (hg : w.grownBy w' (some b)) : LocksAt w' base g q := by
  obtain ⟨v, h1, h2, h3, h4⟩ := h
  refine ⟨v, (hg.block g (lt_of_block h1) (fun e => ?_)).trans h1, h2, own_mapped h3 hb hg, fun a ha => ⟨own_mapped (h4 a ha).1 hb hg, (h4 a ha).2⟩⟩
  have : g = b := Option.some.inj e
  rw [this, hb] at h1
  cases h1
theorem ask_nil {q : List LRow} {who : Int} {ps : List ByteArray} (he : (askErr q who ps).num = 0) : askErr q who ps = .nil := by
  have he' := he
  unfold askErr at he ⊢
  split at he
  · cases he
  · rename_i h1
    rw [if_neg h1]
    split at he
    · cases he
    · rename_i h2
      rw [if_neg h2]
      split at he
      · cases he
      · rename_i h3
        rw [if_neg h3]
        obtain ⟨_, _, xs, hx⟩ := ask_len he'
        rw [hx]
        rfl
theorem errV_some {w : World} {er : Value} {g : GErr} (h : ErrV w er g) (hn : g.num ≠ 0) : ∃ t v, er = .iface t v := by
  cases g with
  | nil => exact absurd rfl hn
  | errno e => exact ⟨_, _, h⟩
  | fault p e => obtain ⟨b, rfl, _⟩ := h; exact ⟨_, _, rfl⟩
  | joined p e => obtain ⟨b, s, n, c, b1, rfl, _⟩ := h; exact ⟨_, _, rfl⟩
theorem int_cell {w : World} {base : Nat} {A : Option Addr} {c : Nat} {xs : List Int} (h : w.ownsRow base 3 1 (.slice A xs.length c) xs.length (intsV xs)) {k : Nat} (hk : k < xs.length) : ∃ b, A = some ⟨b, 0, none⟩ ∧ w.cell? ⟨b, k, none⟩ = some (.int .i64 xs[k]) := by
  obtain ⟨g, cap, e, _, _⟩ := h.form (by omega)
  injection e with e1 e2 e3
  subst e1
  refine ⟨g, rfl, ?_⟩
  have := h.cellAt k (by omega)
  rw [this]
  simp [intsV, hk]
theorem ints_form {w : World} {base n : Nat} {e : TypeId} {v : Value} {xs : List Value} (h : w.ownsRow base e 1 v n xs) : ∃ A c, v = .slice A n c ∧ n ≤ c := by
  rcases h.2 with ⟨rfl, rfl⟩ | ⟨g, cap, cur, rfl, _, _, hc, _⟩
  · exact ⟨_, _, rfl, by omega⟩
  · exact ⟨_, _, rfl, hc⟩
theorem op_len2 {w : World} {A : Option Addr} {l : List OpD} (h : Kd.C kOp w A l.length l) : ∀ o ∈ l, o.2.2.length ≤ 9223372036854775807 := fun o ho => by
  obtain ⟨k, hk, rfl⟩ := List.getElem_of_mem ho
  obtain ⟨ad, e, hc⟩ := h.2.2 (by omega)
  obtain ⟨c, _, ⟨c0, c1, rfl, h0, ⟨c2, c3, rfl, h2, ⟨A', c', rfl, hle, hr⟩⟩⟩, hcell⟩ := hc k _ (List.getElem?_eq_getElem hk)
  exact hr.2.1
theorem fits_yes2 {l : List OpD} (h : fitsB l = true) : l.length ≤ 90 ∧ ∀ o ∈ l, o.2.2.length ≤ 20 ∧ ∀ s ∈ o.2.2, s.size ≤ 100 := by
  simp only [fitsB, Bool.and_eq_true, decide_eq_true_eq, List.all_eq_true, fitB] at h
  exact ⟨h.1, fun o ho => ⟨(h.2 o ho).1, (h.2 o ho).2⟩⟩
theorem intKeyed : Keyed Tryd.prog 3 := int_keyed Tryd.underlying3
theorem zeroTexts (w : World) : (zeroValue 29).run Tryd.prog w = .ok (.slice none 0 0) w := by kernel_rfl
/-- What is kept across a round. -/
structure AloneAt (w0 wr : World) (base g b n : Nat) (ov : Value) (q : List LRow) (m : Lit → Option Value) : Prop where
  bel : Below base w0 wr
  locks : LocksAt wr base g q
  map : MapAs wr Tryd.prog 3 b n m
  ord : wr.ownsRow base 3 1 ov q.length (intsV (q.map LRow.who))
  al : Alone w0 q m
  wf : ∀ x ∈ q.map LRow.who, (Lit.int .i64 x).wf = true
theorem AloneAt.below {w0 wr wr' : World} {base g b n : Nat} {ov : Value} {q : List LRow} {m : Lit → Option Value} (h : AloneAt w0 wr base g b n ov q m) (hb : Below wr.heap.size wr wr') (hbase : base ≤ wr.heap.size) : AloneAt w0 wr' base g b n ov q m :=
  ⟨h.bel.trans (hb.mono hbase), h.locks.below hb, h.map.below hb, own_stay h.ord hb, h.al, h.wf⟩
theorem block_frame {w w' : World} {ts : List Nat} {b : Nat} {t : TypeId} {cs : Array Value} (hf : FrameT ts w w') (h : w.heap[b]? = some (.cells cs t (0, 0))) (ht : t ∉ ts) : w'.heap[b]? = some (.cells cs t (0, 0)) :=
  (hf.block b (lt_of_block h) (fun cs' t' e => by rw [h] at e; injection e with e; injection e with _ e1; rw [← e1]; exact ht)).trans h
theorem own_ne {w : World} {base n size b : Nat} {e : TypeId} {v : Value} {xs : List Value} {es : Array MapEntry} {clock : Nat} (h : w.ownsRow base e size v n xs) (hb : w.heap[b]? = some (.map es clock)) : some b ≠ v.ownBlock := by
  rcases h.2 with ⟨rfl, _⟩ | ⟨g, cap, cur, rfl, _, hh, _⟩
  · simp [Value.ownBlock]
  · intro e2
    have : b = g := by simpa [Value.ownBlock] using e2
    rw [← this, hb] at hh
    cases hh
theorem who_cell {w : World} {base : Nat} {A : Option Addr} {c : Nat} {q : List LRow} (h : w.ownsRow base 3 1 (.slice A q.length c) q.length (intsV (q.map LRow.who))) {k : Nat} (hk : k < q.length) : ∃ b, A = some ⟨b, 0, none⟩ ∧ w.cell? ⟨b, k, none⟩ = some (.int .i64 q[k].who) := by
  obtain ⟨g, cap, e, _, _⟩ := h.form (by omega)
  injection e with e1 e2 e3
  subst e1
  refine ⟨g, rfl, ?_⟩
  have := h.cellAt k (by omega)
  rw [this]
  simp [intsV, hk]
/-- The order without one. -/
def leftL (q : List LRow) (who : Int) (j : Nat) : List Int := ((q.map LRow.who).take j).filter fun x => !(x == who)
theorem leftL_len (q : List LRow) (who : Int) (j : Nat) : (leftL q who j).length ≤ j := Nat.le_trans (List.length_filter_le _ _) (by simp; omega)
theorem leftL_no {q : List LRow} {who : Int} {j : Nat} (hj : j < q.length) (h : (q[j].who == who) = true) : leftL q who (j + 1) = leftL q who j := by
  unfold leftL
  rw [List.take_succ_eq_append_getElem (by simpa using hj), List.filter_append]
  simp [h]
theorem leftL_yes {q : List LRow} {who : Int} {j : Nat} (hj : j < q.length) (h : (q[j].who == who) = false) : leftL q who (j + 1) = leftL q who j ++ [q[j].who] := by
  unfold leftL
  rw [List.take_succ_eq_append_getElem (by simpa using hj), List.filter_append]
  simp [h]
theorem leftL_all {q : List LRow} (ho : Once q) {who : Int} {k : Nat} (hk : k < q.length) (hw : q[k].who = who) (hs : sig (relQ q who).1 = (sig q).eraseIdx k) : leftL q who q.length = (relQ q who).1.map LRow.who := by
  have e : (q.map LRow.who)[k]'(by simpa using hk) = who := by simpa using hw
  have h1 := filter_erase (l := q.map LRow.who) ho (k := k) (by simpa using hk)
  rw [e] at h1
  unfold leftL
  rw [List.take_of_length_le (by simp), h1, who_map2, who_map2, hs, List.eraseIdx_eq_take_drop_succ, List.eraseIdx_eq_take_drop_succ, List.map_append, List.map_take, List.map_drop]
theorem askNext_who {q : List LRow} {who : Int} {ps : List ByteArray} (v : Value) (he : (askErr q who ps).num = 0) : (askNext q who ps v).map LRow.who = q.map LRow.who ++ [who] ∧ (askNext q who ps v).length = q.length + 1 := by
  rw [askNext, if_pos he]
  simp
set_option maxRecDepth 100000 in
set_option maxHeartbeats 8000000 in
theorem lockAlone_walk (v : Value) (l : List OpD) (w : World) (hv : SliceArg kOp w v l) (hgood : ∀ o ∈ l, (Lit.int .i64 o.1).wf = true ∧ (Lit.int .i64 o.2.1).wf = true ∧ ∀ s ∈ o.2.2, s.size ≤ maxLen) (hg : EnvM w) :
    Calls Tryd.prog 3 #[v] w fun e w' => e = .returned (.bool true) ∧ Below w.heap.size w w' := by
  obtain ⟨A, c, rfl, hlc, hcm, hC⟩ := hv
  have hmx : (maxLen : Nat) = 9223372036854775807 := rfl
  have hor := opRow_of hC
  have HK := Lib.hid (locks_any w hg)
  have HG := Lib.hid hg
  have HOR := Lib.hid hor
  have HWF := Lib.hid (fun o ho => (hgood o ho).2.1)
  have HFT := Lib.hid (fun W (hb : Below w.heap.size w W) => fits_any A c l W (hor.below hb) (by omega) (fun o ho => ⟨op_len2 hC o ho, fun s hs => (hgood o ho).2.2 s hs⟩))
  clear hC hgood hg hor
  cases hft : fitsB l with
  | false =>
    have HF := Lib.hid hft
    clear hft
    go_enter Tryd.func3, Tryd.ntmps3
    go_wp2_with fail
    refine HK.out.mono ?_
    rintro e w1 ⟨rfl, hb1⟩
    go_wp2_with fail
    refine (HFT.out _ hb1).mono ?_
    rw [HF.out]
    rintro e w2 ⟨rfl, hb2⟩
    go_wp2_with fail
    go_ret
    exact ⟨rfl, below_from hb1 hb2⟩
  | true =>
    have HF := Lib.hid hft
    obtain ⟨hl90, hops⟩ := fits_yes2 hft
    have HOPS := Lib.hid hops
    clear hft hops
    have hmm := @run_makeMap Tryd.prog
    obtain ⟨j0, hj0, hjz0, hjz1, hjz2⟩ := info_parts infoInt
    go_enter Tryd.func3, Tryd.ntmps3
    go_wp2_with fail
    refine HK.out.mono ?_
    rintro e w1 ⟨rfl, hb1⟩
    go_wp2_with fail
    refine (HFT.out _ hb1).mono ?_
    rw [HF.out]
    rintro e w2 ⟨rfl, hb2⟩
    go_wp2_with fail
    have hb12 := below_from hb1 hb2
    refine (new_any w2 w.heap.size hb12.size).mono ?_
    rintro e w3 ⟨rfl, hb3, hl3⟩
    have hb13 := below_from hb12 hb3
    have HL3 := Lib.hid hl3
    have HB3 := Lib.hid hb13
    clear hl3 hb3 hb12 hb1 hb2
    have HST : Hid (AloneAt w (w3.alloc (.map #[] 0)) w.heap.size w2.heap.size w3.heap.size 0 (.slice none 0 0) [] (fun _ => none)) :=
      ⟨below_from HB3.out (below_one _ _), HL3.out.below (below_one _ _), mapAs_new _ _ _, ⟨rfl, .inl ⟨rfl, rfl⟩⟩, alone_start w, fun x hx => by cases hx⟩
    have hsz3 := HB3.out.size
    clear hb13
    go_wp2_with fail
    go_loopw [5, 28] (fun ov i wr => ∃ (k n : Nat) (q : List LRow) (m : Lit → Option Value), k ≤ l.length ∧ i = .int .i64 k ∧ n ≤ k ∧ AloneAt w wr w.heap.size w2.heap.size w3.heap.size n ov q m) (fun _ i _ => l.length - (intOf i).toNat)
    case atStart => exact ⟨0, 0, [], _, by omega, rfl, by omega, HST.out⟩
    case round =>
      obtain ⟨k, n, q, m, hk, rfl, hnk, hst⟩ := hrel
      have HS := Lib.hid hst
      have HBR := Lib.hid hst.bel
      have hq64 := hst.al.small
      clear hst
      by_cases hlt : k < l.length
      · obtain ⟨bb, off, rfl, hrow⟩ := HOR.out (by omega)
        obtain ⟨A1, c1, x1, x2, x3, x4, x5⟩ := hrow k hlt
        obtain ⟨o, ho⟩ : ∃ o, o = l[k] := ⟨_, rfl⟩
        have hol : o ∈ l := ho ▸ List.getElem_mem hlt
        have hpo := HOPS.out o hol
        have hwf := HWF.out o hol
        rw [← ho] at x1 x2 x3 x4 x5
        obtain ⟨kd, who, ps⟩ := o
        replace x1 := cell_below HBR.out x1
        replace x2 := cell_below HBR.out x2
        replace x3 := cell_below HBR.out x3
        have HT := Lib.hid x5
        have HWHO : Hid ((Lit.int .i64 who).wf = true) := Lib.hid hwf
        have hpl : ps.length ≤ 1000 := by have := hpo.1; simp only at this; omega
        have HZ : Hid (∀ s ∈ ps, s.size ≤ 140737488351232) := Lib.hid (fun s hs => by have := hpo.2 s hs; omega)
        have HRAW : Hid (RawAt w (.slice A1 ps.length c1) ps) := Lib.hid ⟨A1, c1, rfl, x5, hpo.2, hpo.1⟩
        simp only at x1 x2 x3
        clear hrow x5 ho hpo hol hwf
        have hbo := below_one wr (.cells #[.int .i64 kd, .int .i64 who, .slice A1 ps.length c1] 31)
        have HSO := Lib.hid (HS.out.below hbo HBR.out.size)
        have HOB : Hid ((wr.alloc (.cells #[.int .i64 kd, .int .i64 who, .slice A1 ps.length c1] 31)).heap[wr.heap.size]? = some (.cells #[.int .i64 kd, .int .i64 who, .slice A1 ps.length c1] 31 (0, 0))) := Lib.hid (heap_alloc_new wr _)
        have hmlt := HS.out.map.lt
        have hbsz := HSO.out.bel.size
        clear hbo
        go_upto_if 34 with fail
        go_cut [5] from 30 to 129 (fun ov wc => ∃ (n' : Nat) (q' : List LRow) (m' : Lit → Option Value), n' ≤ k + 1 ∧ AloneAt w wc w.heap.size w2.heap.size w3.heap.size n' ov q' m')
        case first =>
          cases hkd : (kd == 0) with
          | true =>
            go_wp2_with fail
            refine (ask_any w2.heap.size who A1 c1 ps q _ (base := w.heap.size) hq64 HSO.out.locks HSO.out.bel.size hpl (HT.out.below HSO.out.bel) HZ.out (HG.out.below HSO.out.bel)).mono ?_
            rintro e w5 ⟨er, v5, rfl, hve, hl5, hb5, hf5⟩
            have HOB5 := Lib.hid (block_frame hf5 HOB.out (by decide))
            have HM5 := Lib.hid (HSO.out.map.frame hf5)
            have HO5 := Lib.hid (hf5.own HSO.out.ord (by decide))
            have HB5 := Lib.hid (HSO.out.bel.trans hb5)
            have y1 : w5.cell? ⟨wr.heap.size, 1, none⟩ = some (.int .i64 who) := by simp [World.cell?, HOB5.out]
            have y2 : w5.cell? ⟨wr.heap.size, 2, none⟩ = some (.slice A1 ps.length c1) := by simp [World.cell?, HOB5.out]
            have HL5 := Lib.hid hl5
            by_cases hz : (askErr q who ps).num = 0
            · rw [ask_nil hz] at hve
              obtain rfl : er = .nilIface := hve
              have HZR := Lib.hid hz
              have hsz5 := HB5.out.size
              have hml5 := HM5.out.lt
              obtain ⟨w6, hrun6, hm6, hg6⟩ := HM5.out.store intKeyed Tryd.underlying27 (by rw [hmx]; omega) (key := .int .i64 who) (.slice A1 ps.length c1) (keyOf_int_mk Tryd.underlying3 HWHO.out)
              obtain ⟨es5, ck5, hmb5⟩ := HM5.out.isMap
              have HM6 := Lib.hid hm6
              have HOB6 : Hid (w6.heap[wr.heap.size]? = some (.cells #[.int .i64 kd, .int .i64 who, .slice A1 ps.length c1] 31 (0, 0))) := Lib.hid ((hg6.block _ (lt_of_block HOB5.out) (fun e => by injection e; omega)).trans HOB5.out)
              have z1 : w6.cell? ⟨wr.heap.size, 1, none⟩ = some (.int .i64 who) := by simp [World.cell?, HOB6.out]
              have HL6 := Lib.hid (HL5.out.mapped hmb5 hg6)
              have HO6 := Lib.hid (own_mapped HO5.out hmb5 hg6)
              have hb56 : Below w.heap.size w5 w6 := (Below.refl _ _).grown hg6 hsz5 (fun j hj => by cases hj; omega)
              have HB6 := Lib.hid (HB5.out.trans hb56)
              have hsz6 := HB6.out.size
              have hown0 : Hid ((w6.alloc (.cells #[.int .i64 who] 3)).ownsRow w.heap.size 3 1 u5 q.length (intsV (q.map LRow.who))) := own_stay HO6.out (below_one _ _)
              clear hl5 hb5 hf5 hz hm6 hg6 hmb5 hb56
              go_wp2_with (at_builtin; go_loud (refine wpList_append_own _ rfl (.tmp 51) (.tmp 54) 28 rfl w.heap.size 3 j0 (.int .i64 0) 1 8 Tryd.underlying28 hj0 hjz0 hjz1 hjz2 rfl (by decide) u5 q.length (intsV (q.map LRow.who)) (by simp [Act.eval, Act.put]) hown0.out ⟨w6.heap.size, 0, none⟩ 1 1 [.int .i64 who] (by simp [Act.eval, Act.put]) rfl (cell_one_new _ _ _) (fun u hu => by (simp at hu; subst hu; rfl)) (by unfold maxLen; omega) (by omega) (by simp; omega) ?_); intro v8 w8 hown8 hg8 _)
              have hrow8 : ∀ j, u5.ownBlock = some j → w.heap.size ≤ j := fun j hj => (hown0.out.lt j hj).1
              have hm8 := (HM6.out.below (below_one w6 (.cells #[.int .i64 who] 3)))
              obtain ⟨es7, ck7, hmb7⟩ := hm8.isMap
              have HM8 := Lib.hid (hm8.grown hg8 (own_ne hown0.out hmb7))
              have HL8 := Lib.hid ((HL6.out.below (below_one w6 (.cells #[.int .i64 who] 3))).grown hown0.out (by decide) hg8).1
              have HB8 := Lib.hid ((Below.trans HB6.out ((below_one w6 (.cells #[.int .i64 who] 3)).mono hsz6)).grown hg8 (by simp; omega) hrow8)
              have HO8 : Hid (w8.ownsRow w.heap.size 3 1 v8 (askNext q who ps v5).length (intsV ((askNext q who ps v5).map LRow.who))) := Lib.hid (by
                rw [(askNext_who v5 HZR.out).1, (askNext_who v5 HZR.out).2]
                simpa [intsV] using hown8)
              clear hown8 hg8 hm8 hmb7 hrow8
              go_meet
              case rel => exact ⟨n + 1, _, _, by omega, HB8.out, HL8.out, HM8.out, HO8.out, HSO.out.al.ask HZR.out v5 _ HRAW.out, fun x hx => by
                rw [(askNext_who v5 HZR.out).1, List.mem_append, List.mem_singleton] at hx
                rcases hx with hx | rfl
                · exact HSO.out.wf x hx
                · exact HWHO.out⟩
            · obtain ⟨et, ev, rfl⟩ := errV_some hve hz
              clear hve
              have hnx : askNext q who ps v5 = q := by rw [askNext, if_neg hz]
              rw [hnx] at hl5
              have HL5 := Lib.hid hl5
              clear hl5 hb5 hf5 hz hnx
              go_wp2_with fail
              go_meet
              case rel => exact ⟨n, q, m, by omega, HB5.out, HL5.out, HM5.out, HO5.out, HSO.out.al, HSO.out.wf⟩
          | false =>
            go_wp2_with fail
            refine (release_any w2.heap.size who q _ (base := w.heap.size) hq64 HSO.out.locks HSO.out.bel.size).mono ?_
            rintro e w5 ⟨v5, rfl, ho5, hl5, hb5, hf5⟩
            have HOB5 := Lib.hid (block_frame hf5 HOB.out (by decide))
            have HM5 := Lib.hid (HSO.out.map.frame hf5)
            have HO5 := Lib.hid (hf5.own HSO.out.ord (by decide))
            have HB5 := Lib.hid (HSO.out.bel.trans hb5)
            have HL5 := Lib.hid hl5
            have hsz5 := HB5.out.size
            have hml5 := HM5.out.lt
            rcases rel_cases HSO.out.al.once who with hgone | ⟨kk, hkk, hfk, hwk, hsk, hek, hok, hlk⟩
            · rw [hgone] at hl5 ⊢
              have HL6 := Lib.hid hl5
              clear hl5 hb5 hf5 ho5 hgone HL5
              go_wp2_with fail
              go_meet
              case rel => exact ⟨n, q, m, by omega, HB5.out, HL6.out, HM5.out, HO5.out, HSO.out.al, HSO.out.wf⟩
            · rw [hek]
              have y1 : w5.cell? ⟨wr.heap.size, 1, none⟩ = some (.int .i64 who) := by simp [World.cell?, HOB5.out]
              have HAL := Lib.hid (HSO.out.al.rel hkk hwk hsk hok hlk)
              have HSK := Lib.hid hsk
              have HLK := Lib.hid hlk
              have HWK := Lib.hid hwk
              obtain ⟨q1, hq1⟩ : ∃ q1, q1 = (relQ q who).1 := ⟨_, rfl⟩
              clear hl5 hb5 hf5 ho5 hfk hsk hek hok hlk hwk
              obtain ⟨w6, hrun6, hm6, hg6⟩ := HM5.out.drop intKeyed Tryd.underlying27 (key := .int .i64 who) (keyOf_int_mk Tryd.underlying3 HWHO.out) 0
              obtain ⟨es5, ck5, hmb5⟩ := HM5.out.isMap
              have HM6 := Lib.hid hm6
              have HOB6 : Hid (w6.heap[wr.heap.size]? = some (.cells #[.int .i64 kd, .int .i64 who, .slice A1 ps.length c1] 31 (0, 0))) := Lib.hid ((hg6.block _ (lt_of_block HOB5.out) (fun e => by injection e; omega)).trans HOB5.out)
              have z1 : w6.cell? ⟨wr.heap.size, 1, none⟩ = some (.int .i64 who) := by simp [World.cell?, HOB6.out]
              have HL6 := Lib.hid (HL5.out.mapped hmb5 hg6)
              have HO6 := Lib.hid (own_mapped HO5.out hmb5 hg6)
              have hb56 : Below w.heap.size w5 w6 := (Below.refl _ _).grown hg6 hsz5 (fun j hj => by cases hj; omega)
              have HB6 := Lib.hid (HB5.out.trans hb56)
              have hsz6 := HB6.out.size
              obtain ⟨AO, cO, rfl, hcO⟩ := ints_form HO6.out
              clear hm6 hg6 hmb5 hb56
              go_wp2_with fail
              go_loopw [12, 70] (fun lv i wq => ∃ j : Nat, j ≤ q.length ∧ i = .int .i64 j ∧ Below w6.heap.size w6 wq ∧ wq.ownsRow w6.heap.size 3 1 lv (leftL q who j).length (intsV (leftL q who j))) (fun _ i _ => q.length - (intOf i).toNat)
              case atStart => exact ⟨0, by omega, rfl, Below.refl _ _, ⟨rfl, .inl ⟨rfl, rfl⟩⟩⟩
              case round =>
                obtain ⟨j, hj, rfl, hbq, hoq⟩ := hrel
                have HOQ := Lib.hid hoq
                have HBQ := Lib.hid hbq
                have hll := leftL_len q who j
                clear hoq
                by_cases hjl : j < q.length
                · obtain ⟨ob, rfl, c1w⟩ := who_cell HO6.out hjl
                  replace c1w := cell_below hbq c1w
                  have z2 := cell_below hbq z1
                  obtain ⟨x, hx⟩ : ∃ x, x = q[j].who := ⟨_, rfl⟩
                  rw [← hx] at c1w
                  cases hxw : (x == who) with
                  | true =>
                    have HLN := Lib.hid (leftL_no hjl (by rw [← hx]; exact hxw))
                    clear hx
                    go_wp2_with fail
                    go_roundw
                    case rel => exact ⟨j + 1, by omega, by go_num, HBQ.out, by rw [HLN.out]; exact HOQ.out⟩
                    case measure => simp [intOf]; omega
                  | false =>
                    have HLN : Hid (leftL q who (j + 1) = leftL q who j ++ [x]) := Lib.hid (by rw [leftL_yes hjl (by rw [← hx]; exact hxw), ← hx])
                    have hxne : ¬ x = who := by simpa using hxw
                    have hown9 : Hid ((wr.alloc (.cells #[.int .i64 x] 3)).ownsRow w6.heap.size 3 1 u12 (leftL q who j).length (intsV (leftL q who j))) := own_stay HOQ.out (below_one _ _)
                    have hszq := HBQ.out.size
                    clear hx
                    go_wp2_with (at_builtin; go_loud (refine wpList_append_own _ rfl (.tmp 78) (.tmp 80) 28 rfl w6.heap.size 3 j0 (.int .i64 0) 1 8 Tryd.underlying28 hj0 hjz0 hjz1 hjz2 rfl (by decide) u12 (leftL q who j).length (intsV (leftL q who j)) (by simp [Act.eval, Act.put]) hown9.out ⟨wr.heap.size, 0, none⟩ 1 1 [.int .i64 x] (by simp [Act.eval, Act.put]) rfl (cell_one_new _ _ _) (fun u hu => by (simp at hu; subst hu; rfl)) (by unfold maxLen; omega) (by omega) (by simp; omega) ?_); intro v9 w9 hown10 hg9 _)
                    have hb9 : Below w6.heap.size w6 w9 := (below_from HBQ.out (below_one wr _)).grown hg9 (by simp; omega) (fun k hk => (hown9.out.lt k hk).1)
                    go_roundw
                    case rel => exact ⟨j + 1, by omega, by go_num, hb9, by rw [HLN.out]; simpa [intsV] using hown10⟩
                    case measure => simp [intOf]; omega
                · obtain rfl : j = q.length := by omega
                  have HLA := Lib.hid (leftL_all HSO.out.al.once hkk HWK.out HSK.out)
                  go_wp2_with fail
                  go_meet
                  case rel => exact ⟨n, _, _, by omega, HB6.out.trans (hbq.mono hsz6), HL6.out.below hbq, HM6.out.below hbq, by
                    have h9 := own_mono HOQ.out hsz6
                    rw [HLA.out, List.length_map] at h9
                    exact h9, HAL.out, fun x hx => by
                    rw [← HLA.out] at hx
                    exact HSO.out.wf x (List.mem_of_mem_take (List.mem_filter.1 hx).1)⟩
        case rest =>
          obtain ⟨n', q', m', hn', hst'⟩ := hcut
          have HST' := Lib.hid hst'
          have hq64' := hst'.al.small
          have hbz := hst'.bel.size
          obtain ⟨AO, cO, rfl, hcO⟩ := ints_form hst'.ord
          clear hst'
          by_cases hq0 : 0 < q'.length
          · have d0 : decide ((0 : Int) < (q'.length : Int)) = true := decide_eq_true (by omega)
            have HFI := Lib.hid (HST'.out.al.first hq0)
            obtain ⟨ob, rfl, c0⟩ := who_cell HST'.out.ord hq0
            obtain ⟨x0, hx0⟩ : ∃ x0, x0 = q'[0].who := ⟨_, rfl⟩
            rw [← hx0] at c0
            have HX0 := Lib.hid hx0
            clear hx0
            go_wp2_with fail
            refine (has_any w2.heap.size x0 q' _ (by omega) HST'.out.locks).mono ?_
            rw [HX0.out, HFI.out]
            rintro e w6 ⟨rfl, hb6⟩
            have HB6 := Lib.hid hb6
            clear hb6
            go_wp2_with fail
            go_loopw [97] (fun i wq => ∃ i' : Nat, i' ≤ q'.length ∧ i = .int .i64 i' ∧ Below wc.heap.size wc wq) (fun i _ => q'.length - (intOf i).toNat)
            case atStart => exact ⟨0, by omega, rfl, HB6.out⟩
            case round =>
              obtain ⟨i, hi, rfl, hbq⟩ := hrel
              have HBQ := Lib.hid hbq
              clear hbq
              by_cases hil : i < q'.length
              · obtain ⟨ob', hob', cA⟩ := who_cell HST'.out.ord hil
                have hoe : ob = ob' := by injection hob' with h; injection h
                subst hoe
                replace cA := cell_below HBQ.out cA
                obtain ⟨xa, hxa⟩ : ∃ xa, xa = q'[i].who := ⟨_, rfl⟩
                rw [← hxa] at cA
                have HXA := Lib.hid hxa
                have hic : (i : Int) ≤ (cO : Int) := by omega
                clear hxa
                go_wp2_with fail
                go_loopw [106] (fun j wz => ∃ j' : Nat, j' ≤ i ∧ j = .int .i64 j' ∧ Below wc.heap.size wc wz) (fun j _ => i - (intOf j).toNat)
                case atStart => exact ⟨0, by omega, rfl, HBQ.out⟩
                case round =>
                  obtain ⟨j, hj, rfl, hbz'⟩ := hrel
                  have HBZ := Lib.hid hbz'
                  clear hbz'
                  by_cases hjl : j < i
                  · have hjq : j < q'.length := by omega
                    obtain ⟨ob', hob', cB⟩ := who_cell HST'.out.ord hjq
                    have hoe : ob = ob' := by injection hob' with h; injection h
                    subst hoe
                    replace cB := cell_below HBZ.out cB
                    obtain ⟨xb, hxb⟩ : ∃ xb, xb = q'[j].who := ⟨_, rfl⟩
                    rw [← hxb] at cB
                    have HXB := Lib.hid hxb
                    clear hxb
                    cases ha : hasQ q' xa with
                    | false =>
                      have HHA := Lib.hid ha
                      clear ha
                      go_wp2_with fail
                      refine (has_any w2.heap.size xa q' _ (by omega) (HST'.out.locks.below HBZ.out)).mono ?_
                      rw [HHA.out]
                      rintro e w7 ⟨rfl, hb7⟩
                      have HB7 := Lib.hid (below_from HBZ.out hb7)
                      clear hb7
                      go_wp2_with fail
                      go_roundw
                      case rel => exact ⟨j + 1, by omega, by go_num, HB7.out⟩
                      case measure => simp [intOf]; omega
                    | true =>
                      have HHA := Lib.hid ha
                      cases hb : hasQ q' xb with
                      | false =>
                        have HHB := Lib.hid hb
                        clear ha hb
                        go_wp2_with fail
                        refine (has_any w2.heap.size xa q' _ (by omega) (HST'.out.locks.below HBZ.out)).mono ?_
                        rw [HHA.out]
                        rintro e w7 ⟨rfl, hb7⟩
                        have HB7 := Lib.hid (below_from HBZ.out hb7)
                        clear hb7
                        go_wp2_with fail
                        refine (has_any w2.heap.size xb q' _ (by omega) (HST'.out.locks.below HB7.out)).mono ?_
                        rw [HHB.out]
                        rintro e w8 ⟨rfl, hb8⟩
                        have HB8 := Lib.hid (below_from HB7.out hb8)
                        clear hb8
                        go_wp2_with fail
                        go_roundw
                        case rel => exact ⟨j + 1, by omega, by go_num, HB8.out⟩
                        case measure => simp [intOf]; omega
                      | true =>
                        have HHB := Lib.hid hb
                        obtain ⟨vA, psA, hmA, ⟨AA, cAA, rfl, tA, zA, lA⟩, memA⟩ := HST'.out.al.raw i hil
                        obtain ⟨vB, psB, hmB, ⟨AB, cAB, rfl, tB, zB, lB⟩, memB⟩ := HST'.out.al.raw j hjq
                        have HAP := Lib.hid (HST'.out.al.apart hil hjl memA memB (by rw [← HXA.out]; exact ha))
                        rw [← HXA.out] at hmA
                        rw [← HXB.out] at hmB
                        have HWA := Lib.hid (HST'.out.wf xa (List.mem_map.2 ⟨q'[i], List.getElem_mem hil, HXA.out.symm⟩))
                        have HWB := Lib.hid (HST'.out.wf xb (List.mem_map.2 ⟨q'[j], List.getElem_mem hjq, HXB.out.symm⟩))
                        have HKA : Hid (∀ W, Below wc.heap.size wc W → (Instr.lookup 27 (.map (some w3.heap.size)) (.int .i64 xa) false).run Tryd.prog W = .ok (.slice AA psA.length cAA) W) := Lib.hid (fun W hW => by
                          have := (HST'.out.map.below hW).look intKeyed Tryd.underlying27 (zeroTexts _) (keyOf_int_mk Tryd.underlying3 HWA.out)
                          rw [this, hmA]
                          rfl)
                        have HKB : Hid (∀ W, Below wc.heap.size wc W → (Instr.lookup 27 (.map (some w3.heap.size)) (.int .i64 xb) false).run Tryd.prog W = .ok (.slice AB psB.length cAB) W) := Lib.hid (fun W hW => by
                          have := (HST'.out.map.below hW).look intKeyed Tryd.underlying27 (zeroTexts _) (keyOf_int_mk Tryd.underlying3 HWB.out)
                          rw [this, hmB]
                          rfl)
                        have HCM : Hid (∀ W, Below wc.heap.size wc W → Calls Tryd.prog 21 #[.slice AA psA.length cAA, .slice AB psB.length cAB] W fun e w' => e = .returned (.bool false) ∧ w' = W) := Lib.hid (fun W hW => by
                          have hwW : Below w.heap.size w W := HST'.out.bel.trans (hW.mono hbz)
                          have := common_any AA AB cAA cAB psA psB W (tA.below hwW) (tB.below hwW) (fun s hs => by have := zA s hs; omega) (fun s hs => by have := zB s hs; omega) (by omega) (by omega)
                          rw [HAP.out] at this
                          exact this)
                        clear ha hb hmA hmB memA memB tA zA lA tB zB lB
                        go_wp2_with fail
                        refine (has_any w2.heap.size xa q' _ (by omega) (HST'.out.locks.below HBZ.out)).mono ?_
                        rw [HHA.out]
                        rintro e w7 ⟨rfl, hb7⟩
                        have HB7 := Lib.hid (below_from HBZ.out hb7)
                        clear hb7
                        go_wp2_with fail
                        refine (has_any w2.heap.size xb q' _ (by omega) (HST'.out.locks.below HB7.out)).mono ?_
                        rw [HHB.out]
                        rintro e w8 ⟨rfl, hb8⟩
                        have HB8 := Lib.hid (below_from HB7.out hb8)
                        have e1 := HKA.out w8 HB8.out
                        have e2 := HKB.out w8 HB8.out
                        clear hb8
                        go_wp2_with fail
                        refine (HCM.out w8 HB8.out).mono ?_
                        rintro e w9 ⟨rfl, rfl⟩
                        go_wp2_with fail
                        go_roundw
                        case rel => exact ⟨j + 1, by omega, by go_num, HB8.out⟩
                        case measure => simp [intOf]; omega
                  · obtain rfl : j = i := by omega
                    go_wp2_with fail
                    go_roundw
                    case rel => exact ⟨j + 1, by omega, by go_num, HBZ.out⟩
                    case measure => simp [intOf]; omega
              · obtain rfl : i = q'.length := by omega
                go_wp2_with fail
                go_roundw
                case rel => exact ⟨k + 1, n', q', m', by omega, by go_num, by omega, HST'.out.below HBQ.out hbz⟩
                case measure => simp [intOf]; omega
          · have hq00 : q'.length = 0 := by omega
            have hform : AloneAt w wc w.heap.size w2.heap.size w3.heap.size n' (.slice AO 0 cO) q' m' := hq00 ▸ HST'.out
            have HF0 := Lib.hid hform
            clear hform
            rw [hq00]
            go_wp2_with fail
            refine wp_loop_rounds 1 ?_
            rw [rounds_succ]
            go_wp2_with fail
            go_roundw
            case rel => exact ⟨k + 1, n', q', m', by omega, by go_num, by omega, HF0.out⟩
            case measure => simp [intOf]; omega
      · obtain rfl : k = l.length := by omega
        go_wp2
        go_ret
        exact ⟨rfl, HBR.out⟩
end Go.Proofs.YtaaeobdihfbjfaaDoor
