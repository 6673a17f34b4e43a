/-
  (*Locks).Release, Holder.
-/
import Derived.Test.YtaaeobdihfbjfaaDoorLockDel
set_option linter.unusedVariables false
set_option linter.unusedSimpArgs false
namespace Go.Proofs.YtaaeobdihfbjfaaDoor
open Go.RowKit
/-- Behind a change of the row itself, and the store of it. -/
theorem LocksAt.turn {w w4 : World} {base g : Nat} {q q' : List LRow} {A : Option Addr} {c : Nat} {v2 : Value} (h : LocksAt w base g q) (hrow : w.ownsRow base 116 3 (.slice A q.length c) q.length (flat q))
    (hbase : base ≤ w.heap.size) (ha : ∀ a ∈ q', a ∈ q)
    (hown : w4.ownsRow base 116 3 v2 q'.length (flat q')) (hg : w.grownBy w4 (Value.slice A q.length c).ownBlock) :
    (∃ v, w4.cell? ⟨g, 0, none⟩ = some v) ∧ w4.frozen? ⟨g, 0, none⟩ = false ∧ LocksAt (w4.setCell ⟨g, 0, none⟩ v2) base g q' ∧ Below base w (w4.setCell ⟨g, 0, none⟩ v2) ∧ FrameT lockTs w (w4.setCell ⟨g, 0, none⟩ v2) := by
  obtain ⟨v, h1, h2, _, h4⟩ := h
  have hgl := lt_of_block h1
  have hrowne : ∀ k, (Value.slice A q.length c).ownBlock = some k → base ≤ k ∧ ∃ cur, w.heap[k]? = some (.cells cur 116 (0, 0)) := by
    intro k hk
    rcases hrow.2 with ⟨hn, _⟩ | ⟨b, cap, cur, hn, hb, hh, _⟩
    · rw [hn] at hk; simp [Value.ownBlock] at hk
    · rw [hn] at hk
      have : b = k := by simpa [Value.ownBlock] using hk
      subst this
      exact ⟨hb, cur, hh⟩
  have hgne : some g ≠ (Value.slice A q.length c).ownBlock := by
    intro e
    obtain ⟨_, cur, hh⟩ := hrowne g e.symm
    exact ne_of_types h1 hh (by decide) rfl
  have h4g : w4.heap[g]? = some (.cells #[v] 111 (0, 0)) := (hg.block g (by omega) hgne).trans h1
  have hsz : w.heap.size ≤ w4.heap.size := hg.size
  have hkeep : ∀ k, k < w.heap.size → some k ≠ (Value.slice A q.length c).ownBlock → k ≠ g → (w4.setCell ⟨g, 0, none⟩ v2).heap[k]? = w.heap[k]? := fun k hk hne hkg => by
    rw [Below.heap_setCell w4 ⟨g, 0, none⟩ v2 k hkg, hg.block k (by omega) hne]
  have hset : (w4.setCell ⟨g, 0, none⟩ v2).heap[g]? = some (.cells #[v2] 111 (0, 0)) := by
    rw [heap_setCell_same w4 g 0 _ _ v2 h4g]; rfl
  refine ⟨⟨v, by simp [World.cell?, h4g]⟩, frozen_of_row w4 g 0 _ _ h4g, ⟨v2, hset, h2, ?_, ?_⟩, ⟨?_, ?_, ?_, ?_, ?_⟩, ⟨?_, ?_, ?_, ?_, ?_⟩⟩
  · refine ownsRow_setCell_other hown ?_ v2
    intro e2
    rcases hown.2 with ⟨hn, _⟩ | ⟨b, cap, cur, hn, hb, hh, _⟩
    · rw [hn] at e2; simp [Value.ownBlock] at e2
    · rw [hn] at e2
      have : b = g := by simpa [Value.ownBlock] using e2
      subst this
      exact ne_of_types h4g hh (by decide) rfl
  · intro x hx
    have key := h4 x (ha x hx)
    refine ⟨?_, key.2⟩
    obtain ⟨k1, k2⟩ := key.1
    refine ⟨k1, ?_⟩
    rcases k2 with k2 | ⟨b, cap, cur, hn, hb, hh, r⟩
    · exact .inl k2
    · refine .inr ⟨b, cap, cur, hn, hb, (hkeep b (lt_of_block hh) ?_ (ne_of_types hh h1 (by decide))).trans hh, r⟩
      intro e
      obtain ⟨_, cur2, hh2⟩ := hrowne b e.symm
      exact ne_of_types hh hh2 (by decide) rfl
  · exact (hg.os).trans rfl
  · exact (hg.tape).trans rfl
  · exact (hg.output).trans rfl
  · simpa using hsz
  · intro k hk
    refine hkeep k (by omega) (fun e => ?_) (by omega)
    have := (hrowne k e.symm).1
    omega
  · exact (hg.os).trans rfl
  · exact (hg.tape).trans rfl
  · exact (hg.output).trans rfl
  · simpa using hsz
  · intro k hk ht
    refine hkeep k hk (fun e => ?_) (fun e => ?_)
    · obtain ⟨_, cur, hh⟩ := hrowne k e.symm
      exact ht cur _ hh (by decide)
    · subst e
      exact ht _ _ h1 (by decide)
theorem FrameT.grown {ts : List Nat} {w W W' : World} {row : Option Nat} (h : FrameT ts w W) (hg : W.grownBy W' row) (hr : ∀ k, row = some k → w.heap.size ≤ k) : FrameT ts w W' :=
  ⟨hg.os.trans h.os, hg.tape.trans h.tape, hg.output.trans h.output, Nat.le_trans h.size hg.size, fun k hk ht =>
    (hg.block k (Nat.lt_of_lt_of_le hk h.size) (fun e => by have := hr k e.symm; omega)).trans (h.block k hk ht)⟩
/-- Another row has grown. -/
theorem LocksAt.grown {w w' : World} {base g b' n : Nat} {q : List LRow} {e : TypeId} {u : Value} {xs : List Value} (h : LocksAt w base g q) (ho : w.ownsRow b' e 1 u n xs) (he : e ∉ [111, 116, 9]) (hg : w.grownBy w' u.ownBlock) :
    LocksAt w' base g q ∧ ∀ v, w.cell? ⟨g, 0, none⟩ = some v → w'.cell? ⟨g, 0, none⟩ = some v := by
  have hne : ∀ (k : Nat) (cells : Array Value) (t : TypeId) (f : Nat × Nat), w.heap[k]? = some (.cells cells t f) → t ∈ [111, 116, 9] → w'.heap[k]? = w.heap[k]? := by
    intro k cells t f hk ht
    refine hg.block k (lt_of_block hk) (fun e2 => ?_)
    rcases ho.2 with ⟨hn, _⟩ | ⟨b, cap, cur, hn, _, hh, _⟩
    · rw [hn] at e2; simp [Value.ownBlock] at e2
    · rw [hn] at e2
      have : k = b := by simpa [Value.ownBlock] using e2
      subst this
      exact ne_of_types hk hh (fun e3 => he (e3 ▸ ht)) rfl
  have own : ∀ {base : Nat} {t : TypeId} {size n : Nat} {v : Value} {xs : List Value}, w.ownsRow base t size v n xs → t ∈ [111, 116, 9] → w'.ownsRow base t size v n xs := by
    intro base t size n v xs hv ht
    refine ⟨hv.1, ?_⟩
    rcases hv.2 with h2 | ⟨b, cap, cur, hn, hb, hh, r⟩
    · exact .inl h2
    · exact .inr ⟨b, cap, cur, hn, hb, (hne b _ _ _ hh ht).trans hh, r⟩
  obtain ⟨v, h1, h2, h3, h4⟩ := h
  refine ⟨⟨v, (hne g _ _ _ h1 (by simp)).trans h1, h2, own h3 (by simp), fun a ha => ⟨own (h4 a ha).1 (by simp), (h4 a ha).2⟩⟩, fun v hv => ?_⟩
  rw [← hv]
  exact World.cell?_of_block (hne g _ _ _ h1 (by simp))
/-- Those among the first k who have theirs by it. -/
def wake (q : List LRow) : Nat → List LRow × List Int
  | 0 => (q, [])
  | k + 1 =>
    if !((wake q k).1.getD k zRow).has && freeQ (wake q k).1 k then ((wake q k).1.set k (((wake q k).1.getD k zRow).give true), (wake q k).2 ++ [((wake q k).1.getD k zRow).who])
    else wake q k
theorem wake_length (q : List LRow) : ∀ k, (wake q k).1.length = q.length
  | 0 => rfl
  | k + 1 => by
    rw [wake]
    split
    · simp [wake_length q k]
    · exact wake_length q k
theorem wake_out (q : List LRow) : ∀ k, (wake q k).2.length ≤ k
  | 0 => by simp [wake]
  | k + 1 => by
    have := wake_out q k
    rw [wake]
    split
    · simp; omega
    · omega
def intsV (l : List Int) : List Value := l.map (Value.int .i64)
/-- What Release comes to. -/
def relQ (q : List LRow) (who : Int) : List LRow × List Int × Int :=
  if 0 ≤ findQ q who then ((wake (q.eraseIdx (findQ q who).toNat) (q.length - 1)).1, (wake (q.eraseIdx (findQ q who).toNat) (q.length - 1)).2, 0) else (q, [], 4)
def RelPost (q : List LRow) (who : Int) (base g : Nat) (w : World) (e : Ending) (w' : World) : Prop :=
  ∃ v, e = .returned (.tuple #[v, .int .i64 (relQ q who).2.2]) ∧ w'.ownsRow w.heap.size 3 1 v (relQ q who).2.1.length (intsV (relQ q who).2.1) ∧ LocksAt w' base g (relQ q who).1 ∧ Below base w w' ∧ FrameT lockTs w w'
theorem infoInt : (Tryd.prog.info? 3).map (fun i => (i.zero, i.size, i.bytes)) = some (some (.int .i64 0), 1, 8) := by kernel_rfl
set_option maxRecDepth 100000 in
set_option maxHeartbeats 4000000 in
theorem release_any (g : Nat) (who : Int) (q : List LRow) (w : World) {base : Nat} (hq : q.length ≤ 64) (hl : LocksAt w base g q) (hbase : base ≤ w.heap.size) :
    Calls Tryd.prog 19 #[.pointer (some ⟨g, 0, none⟩), .int .i64 who] w (RelPost q who base g w) := by
  have HL := Lib.hid hl
  have hf := find_any g who q w (by omega) hl
  clear hl
  rcases findQ_cases q who with hm | ⟨k, hk, hm⟩
  · rw [hm] at hf
    have HF := Lib.hid hf
    have HR : Hid (relQ q who = (q, [], 4)) := Lib.hid (by rw [relQ, if_neg (by omega)])
    clear hf hm
    go_enter Tryd.func19, Tryd.ntmps19
    go_wp2_with fail
    refine HF.out.mono ?_
    rintro e w2 ⟨rfl, hb2⟩
    go_wp2_with fail
    go_ret2
    refine ⟨.slice none 0 0, ?_⟩
    rw [HR.out]
    exact ⟨rfl, ⟨rfl, .inl ⟨rfl, rfl⟩⟩, HL.out.below hb2, hb2.mono hbase, FrameT.of_below hb2⟩
  · rw [hm] at hf
    have HF := Lib.hid hf
    have HR : Hid (relQ q who = ((wake (q.eraseIdx k) (q.length - 1)).1, (wake (q.eraseIdx k) (q.length - 1)).2, 0)) := Lib.hid (by rw [relQ, if_pos (by omega), hm]; rfl)
    clear hf hm
    have hk0 : decide ((k : Int) < 0) = false := by simp
    go_enter Tryd.func19, Tryd.ntmps19
    go_wp2_with fail
    refine HF.out.mono ?_
    rintro e w2 ⟨rfl, hb2⟩
    have hl2 := HL.out.below hb2
    obtain ⟨A, c, hc, hfr, hrow⟩ := hl2.row
    obtain ⟨b, cap, hA, hbb, hblt⟩ := hrow.form (by omega)
    injection hA with hA1 hA2 hA3
    subst hA1 hA3
    have HL2 := Lib.hid hl2
    have HRW := Lib.hid hrow
    have hval : Hid (∀ a ∈ q, a.val.oneCell' = true) := by
      intro a ha
      obtain ⟨_, _, _, _, h4⟩ := HL2.out
      obtain ⟨A', c', e, _⟩ := own_row (h4 a ha).1
      rw [e]; rfl
    clear hl2 hrow
    go_wp2_with fail
    have hbase2 : base ≤ w2.heap.size := Nat.le_trans hbase hb2.size
    refine (delete_any base b q.length c k q w2 rfl hk (by omega) hval.out HRW.out).mono ?_
    rintro e w3 ⟨rfl, hg3, hown3⟩
    obtain ⟨q1, hq1⟩ : ∃ q1, q1 = q.eraseIdx k := ⟨_, rfl⟩
    obtain ⟨n, hn⟩ : ∃ n, n = q.length - 1 := ⟨_, rfl⟩
    have hql : q1.length = n := by rw [hq1, List.length_eraseIdx, if_pos hk, hn]
    rw [← hq1, ← hn] at hown3
    have hR2 := HR.out
    rw [← hq1, ← hn] at hR2
    rw [← hn]
    obtain ⟨⟨vv, hgc⟩, hgf, hl4, hb4, hf4⟩ := HL2.out.turn HRW.out hbase2 (q' := q1) (fun a ha => List.mem_of_mem_eraseIdx (hq1 ▸ ha)) (by rw [hql]; exact hown3) hg3
    have HR2 := Lib.hid hR2
    have HL4 := Lib.hid hl4
    have HB4 := Lib.hid (Below.trans (hb2.mono hbase) hb4)
    have HF4 := Lib.hid (FrameT.trans (FrameT.of_below hb2) hf4)
    have HQ1 := Lib.hid hq1
    have hn64 : n ≤ 64 := by omega
    have hcs : (w3.setCell ⟨g, 0, none⟩ (.slice (some ⟨b, 0, none⟩) n c)).cell? ⟨g, 0, none⟩ = some (.slice (some ⟨b, 0, none⟩) n c) := World.cell?_setCell_same _ _ _ hgc
    clear hl4 hb4 hf4 hown3 hR2 hq1 hn hg3 HR
    go_wp2_with fail
    clear hgc hgf
    generalize w3.setCell ⟨g, 0, none⟩ (.slice (some ⟨b, 0, none⟩) n c) = w4 at *
    obtain ⟨i0, hi0, hz0, hz1, hz2⟩ := info_parts infoInt
    go_loopw [7, 31] (fun o i wr => ∃ j : Nat, j ≤ n ∧ i = .int .i64 j ∧ LocksAt wr base g (wake q1 j).1 ∧ wr.ownsRow w.heap.size 3 1 o (wake q1 j).2.length (intsV (wake q1 j).2) ∧ Below base w wr ∧ FrameT lockTs w wr ∧ wr.cell? ⟨g, 0, none⟩ = some (.slice (some ⟨b, 0, none⟩) n c)) (fun _ i _ => n - (intOf i).toNat)
    case atStart => exact ⟨0, by omega, rfl, HL4.out, ⟨rfl, .inl ⟨rfl, rfl⟩⟩, HB4.out, HF4.out, hcs⟩
    case round =>
      obtain ⟨j, hj, rfl, hlj, hoj, hbj, hfj, hcj⟩ := hrel
      have hwl : (wake q1 j).1.length = n := by rw [wake_length, hql]
      obtain ⟨p, hp⟩ : ∃ p, p = (wake q1 j).1 := ⟨_, rfl⟩
      obtain ⟨o, ho⟩ : ∃ o, o = (wake q1 j).2 := ⟨_, rfl⟩
      have hol : o.length ≤ j := by rw [ho]; exact wake_out q1 j
      rw [← hp] at hlj hwl
      rw [← ho] at hoj
      have HP := Lib.hid hp
      have HO := Lib.hid ho
      have HLJ := Lib.hid hlj
      have HOJ := Lib.hid hoj
      have HBJ := Lib.hid hbj
      have HFJ := Lib.hid hfj
      clear hp ho hlj hoj hbj hfj hcs
      by_cases hlt : j < n
      · have hjp : j < p.length := by omega
        obtain ⟨A', c', hc', hfr', hrow'⟩ := HLJ.out.row
        rw [hcj, hwl] at hc'
        obtain ⟨rfl, rfl⟩ : A' = some ⟨b, 0, none⟩ ∧ c' = c := by
          injection hc' with hc'
          injection hc' with e1 e2 e3
          exact ⟨e1.symm, e3.symm⟩
        clear hc'
        obtain ⟨a, ha⟩ : ∃ a, a = p[j] := ⟨_, rfl⟩
        have x1 := (hrow'.cellAt (j * 3) (by omega)).trans (flat_get p j hjp 0 (by omega))
        have x2 := (hrow'.cellAt (j * 3 + 2) (by omega)).trans (flat_get p j hjp 2 (by omega))
        have x3 := hrow'.frozenAt (j * 3 + 2)
        rw [← ha] at x1 x2
        replace x1 : wr.cell? ⟨b, j * 3, none⟩ = some (.int .i64 a.who) := x1
        replace x2 : wr.cell? ⟨b, j * 3 + 2, none⟩ = some (.bool a.has) := x2
        have HRJ := Lib.hid hrow'
        have HA := Lib.hid ha
        have HFREE := Lib.hid (fun X (hb : Below wr.heap.size wr X) => free_any g j p X (by omega) hjp (HLJ.out.below hb))
        clear ha hrow' hfr'
        cases hh : a.has with
        | true =>
          rw [hh] at x2
          have HW : Hid (wake q1 (j + 1) = wake q1 j) := Lib.hid (by rw [wake, ← HP.out, List.getD_eq_getElem?_getD, List.getElem?_eq_getElem hjp, Option.getD_some, ← HA.out, hh]; rfl)
          clear hh
          go_wp2_with fail
          go_roundw
          case rel => exact ⟨j + 1, by omega, by go_num, by rw [HW.out, ← HP.out]; exact HLJ.out, by rw [HW.out, ← HO.out]; exact HOJ.out, HBJ.out, HFJ.out, hcj⟩
          case measure => simp [intOf]; omega
        | false =>
          rw [hh] at x2
          have hgd : p.getD j zRow = a := by rw [HA.out]; simp [List.getD, hjp]
          cases hfq : freeQ p j with
          | false =>
            have HW : Hid (wake q1 (j + 1) = wake q1 j) := Lib.hid (by rw [wake, ← HP.out, hgd, hh, hfq]; rfl)
            have HFQ := Lib.hid hfq
            clear hh hgd hfq
            go_wp2_with fail
            refine (HFREE.out _ (Below.refl _ _)).mono ?_
            rw [HFQ.out]
            rintro e w5 ⟨rfl, hb5⟩
            have hbw : Below base wr w5 := hb5.mono (Nat.le_trans hbase HBJ.out.size)
            have HOJ5 := Lib.hid (own_stay HOJ.out hb5)
            have HLJ5 := Lib.hid (HLJ.out.below hb5)
            go_wp2_with fail
            go_roundw
            case rel => exact ⟨j + 1, by omega, by go_num, by rw [HW.out, ← HP.out]; exact HLJ5.out, by rw [HW.out, ← HO.out]; exact HOJ5.out, HBJ.out.trans hbw, HFJ.out.trans (FrameT.of_below hb5), cell_below hb5 hcj⟩
            case measure => simp [intOf]; omega
          | true =>
            have HW : Hid (wake q1 (j + 1) = (p.set j (p[j].give true), o ++ [a.who])) := Lib.hid (by rw [wake, ← HP.out, ← HO.out, hgd, hh, hfq, HA.out]; rfl)
            have HFQ := Lib.hid hfq
            clear hh hgd hfq
            go_wp2_with fail
            refine (HFREE.out _ (Below.refl _ _)).mono ?_
            rw [HFQ.out]
            rintro e w5 ⟨rfl, hb5⟩
            have hbw : Below base wr w5 := hb5.mono (Nat.le_trans hbase HBJ.out.size)
            have HOJ5 := Lib.hid (own_stay HOJ.out hb5)
            have y1 := cell_below hb5 x1
            have y2 := cell_below hb5 x2
            have y3 := frozen_below hb5 x2 x3
            have hx1 : w5.cell? ⟨g, 0, none⟩ = some (.slice (some ⟨b, 0, none⟩) p.length c') := by rw [hwl]; exact cell_below hb5 hcj
            obtain ⟨hl7, hb7, hf7, hc7⟩ := (HLJ.out.below hb5).give (own_stay HRJ.out hb5) hx1 hjp true
            rw [hwl] at hc7
            have HL7 := Lib.hid hl7
            have HB7 := Lib.hid (Below.trans HBJ.out (hbw.trans hb7))
            have HF7 := Lib.hid (FrameT.trans HFJ.out (FrameT.trans (FrameT.of_below hb5) hf7))
            have HO7 := Lib.hid (hf7.own HOJ5.out (by decide))
            have y4 : (w5.setCell ⟨b, j * 3 + 2, none⟩ (.bool true)).cell? ⟨b, j * 3, none⟩ = some (.int .i64 a.who) := by
              rw [World.cell?_setCell_other _ _ _ _ (by simp)]; exact y1
            clear hl7 hb7 hf7 hx1 x1 x2 x3
            have hown0 : Hid (((w5.setCell ⟨b, j * 3 + 2, none⟩ (.bool true)).alloc (.cells #[.int .i64 a.who] 3)).ownsRow w.heap.size 3 1 u7 o.length (intsV o)) := own_stay HO7.out (below_one _ _)
            have hsz7 : w.heap.size ≤ (w5.setCell ⟨b, j * 3 + 2, none⟩ (.bool true)).heap.size := HF7.out.size
            go_wp2_with (at_builtin; go_loud (refine wpList_append_own _ rfl (.tmp 53) (.tmp 58) 28 rfl w.heap.size 3 i0 (.int .i64 0) 1 8 Tryd.underlying28 hi0 hz0 hz1 hz2 rfl (by decide) u7 o.length (intsV o) (by simp [Act.eval, Act.put]) hown0.out ⟨(w5.setCell ⟨b, j * 3 + 2, none⟩ (.bool true)).heap.size, 0, none⟩ 1 1 [.int .i64 a.who] (by simp [Act.eval, Act.put]) rfl (cell_one_new _ _ _) (fun u hu => by (simp at hu; subst hu; rfl)) (by unfold maxLen; omega) (by omega) (by simp at hsz7 ⊢; omega) ?_); intro v9 w9 hown9 hg9 _)
            obtain ⟨hl9, hc9⟩ := (HL7.out.below (below_one _ _)).grown hown0.out (by decide) hg9
            have hc10 := hc9 _ (cell_below (below_one _ _) hc7)
            have hrow9 : ∀ k, u7.ownBlock = some k → w.heap.size ≤ k := fun k hk => (hown0.out.lt k hk).1
            have hb9 : Below base w w9 := (Below.trans HB7.out ((below_one _ _).mono (Nat.le_trans hbase hsz7))).grown hg9 (by simp at hsz7 ⊢; omega) (fun k hk => Nat.le_trans hbase (hrow9 k hk))
            have hf9 : FrameT lockTs w w9 := (FrameT.trans HF7.out (FrameT.of_below (below_one _ _))).grown hg9 hrow9
            have hw9 : w9.ownsRow w.heap.size 3 1 v9 (wake q1 (j + 1)).2.length (intsV (wake q1 (j + 1)).2) := by
              rw [HW.out]
              simpa [intsV] using hown9
            go_roundw
            case rel => exact ⟨j + 1, by omega, by go_num, by rw [HW.out]; exact hl9, hw9, hb9, hf9, hc10⟩
            case measure => simp [intOf]; omega
      · have hj2 : j = n := by omega
        have hfin : relQ q who = (p, o, 0) := by rw [HR2.out, HP.out, HO.out, hj2]
        have HFIN := Lib.hid hfin
        subst hj2
        clear hfin
        go_wp2
        go_ret2
        have e2 : (relQ q who).2.2 = 0 := by rw [HFIN.out]
        refine ⟨u7, by rw [e2]; rfl, ?_, ?_, HBJ.out, HFJ.out⟩
        · rw [HFIN.out]; exact HOJ.out
        · rw [HFIN.out]; exact HLJ.out
end Go.Proofs.YtaaeobdihfbjfaaDoor
