/-
  (*Locks).Ask.
-/
import Derived.Test.YtaaeobdihfbjfaaDoorLock2
set_option linter.unusedVariables false
set_option linter.unusedSimpArgs false
namespace Go.Proofs.YtaaeobdihfbjfaaDoor
open Go.RowKit
/-- Why an ask is refused, or not. -/
def askErr (q : List LRow) (who : Int) (ps : List ByteArray) : GErr :=
  if 0 ≤ findQ q who then .errno 5 else if q.length = 64 then .errno 3 else if 16 < ps.length then .errno 2 else (setGo 0 [] ps).err
def askHas (q : List LRow) (who : Int) (ps : List ByteArray) : Bool := decide ((askErr q who ps).num = 0) && !q.any fun a => meetB a.paths (setGo 0 [] ps).outs
def askNext (q : List LRow) (who : Int) (ps : List ByteArray) (v : Value) : List LRow := if (askErr q who ps).num = 0 then q ++ [⟨who, v, (setGo 0 [] ps).outs, askHas q who ps⟩] else q
/-- The types of the blocks that locks turn. -/
def lockTs : List Nat := [111, 116]
def AskPost (q : List LRow) (who : Int) (ps : List ByteArray) (base g : Nat) (w : World) (e : Ending) (w' : World) : Prop :=
  ∃ er v, e = .returned (.tuple #[.bool (askHas q who ps), er]) ∧ ErrV w' er (askErr q who ps) ∧ LocksAt w' base g (askNext q who ps v) ∧ Below base w w' ∧ FrameT lockTs w w'
theorem ask_refused {q : List LRow} {who : Int} {ps : List ByteArray} {base g : Nat} {w w' : World} {er : Value} {ge : GErr} (he : askErr q who ps = ge) (hn : ge.num ≠ 0) (hv : ErrV w' er ge) (hl : LocksAt w base g q) (hb : Below w.heap.size w w') (hbase : base ≤ w.heap.size) :
    AskPost q who ps base g w (.returned (.tuple #[.bool false, er])) w' := by
  subst he
  refine ⟨er, .nilIface, ?_, hv, ?_, hb.mono hbase, FrameT.of_below hb⟩
  · have : askHas q who ps = false := by unfold askHas; rw [decide_eq_false hn]; rfl
    rw [this]
  · rw [askNext, if_neg hn]
    exact hl.below hb
theorem infoAsk : (Tryd.prog.info? 116).map (fun i => (i.zero, i.size, i.bytes)) = some (some (.agg #[.int .i64 0, .slice none 0 0, .bool false]), 3, 40) := by kernel_rfl
theorem setGo_small : ∀ (l : List ByteArray) (i : Nat) (xs : List ByteArray), (∀ s ∈ xs, s.size ≤ 64) → ∀ s ∈ (setGo i xs l).outs, s.size ≤ 64
  | [], i, xs, h => by rw [setGo]; exact h
  | s :: r, i, xs, h => by
    rw [setGo]
    cases hc : checkB s with
    | some _ => intro x hx; cases hx
    | none =>
      cases hs : scan s xs with
      | some c => intro x hx; cases hx
      | none =>
        refine setGo_small r _ _ (fun x hx => ?_)
        rcases List.mem_append.1 hx with hx | hx
        · exact h x (List.mem_of_mem_take hx)
        · rcases List.mem_cons.1 hx with rfl | hx
          · unfold checkB at hc
            by_cases h64 : x.size ≤ 64
            · exact h64
            · rw [if_pos (by simp; right; omega)] at hc; cases hc
          · exact h x (List.mem_of_mem_drop hx)
/-- The row that locks hold. -/
theorem LocksAt.row {w : World} {base g : Nat} {q : List LRow} (h : LocksAt w base g q) : ∃ A c, w.cell? ⟨g, 0, none⟩ = some (.slice A q.length c) ∧ w.frozen? ⟨g, 0, none⟩ = false ∧ w.ownsRow base 116 3 (.slice A q.length c) q.length (flat q) := by
  obtain ⟨v, h1, _, h3, _⟩ := h
  have hcell : w.cell? ⟨g, 0, none⟩ = some v := by simp [World.cell?, h1]
  have hfr : w.frozen? ⟨g, 0, none⟩ = false := frozen_of_row w g 0 _ _ h1
  have h3' := h3
  rcases h3'.2 with ⟨rfl, h0⟩ | ⟨b, cap, cur, rfl, _⟩
  · exact ⟨none, 0, by rw [hcell, h0], hfr, by rw [h0] at h3 ⊢; exact h3⟩
  · exact ⟨_, cap, hcell, hfr, h3⟩
theorem ne_of_types {w : World} {a b : Nat} {ca cb : Array Value} {ta tb : TypeId} {fa fb : Nat × Nat} (ha : w.heap[a]? = some (.cells ca ta fa)) (hb : w.heap[b]? = some (.cells cb tb fb)) (h : ta ≠ tb) : a ≠ b := by
  rintro rfl
  rw [ha] at hb
  injection hb with hb
  injection hb with _ e _
  exact h e
/-- Behind an append to the row, and the store of it. -/
theorem LocksAt.push {w w4 : World} {base g : Nat} {q : List LRow} {A : Option Addr} {c : Nat} {a : LRow} {o : Obj} {v2 : Value} (h : LocksAt w base g q) (hrow : w.ownsRow base 116 3 (.slice A q.length c) q.length (flat q))
    (hbase : base ≤ w.heap.size) (ha : w.ownsRow base 9 1 a.val a.paths.length (strs a.paths) ∧ (∀ s ∈ a.paths, s.size ≤ 64) ∧ a.paths.length ≤ 16)
    (hown : w4.ownsRow base 116 3 v2 (q.length + 1) (flat q ++ a.cells)) (hg : (w.alloc o).grownBy w4 (Value.slice A q.length c).ownBlock) :
    (∃ v, w4.cell? ⟨g, 0, none⟩ = some v) ∧ w4.frozen? ⟨g, 0, none⟩ = false ∧ LocksAt (w4.setCell ⟨g, 0, none⟩ v2) base g (q ++ [a]) ∧ Below base w (w4.setCell ⟨g, 0, none⟩ v2) ∧ FrameT lockTs w (w4.setCell ⟨g, 0, none⟩ v2) := by
  obtain ⟨v, h1, h2, _, h4⟩ := h
  have hgl := lt_of_block h1
  have hw1 : (w.alloc o).heap.size = w.heap.size + 1 := by simp
  have halloc : ∀ k, k < w.heap.size → (w.alloc o).heap[k]? = w.heap[k]? := fun k hk => Below.heap_alloc w o k hk
  have hrowne : ∀ k, (Value.slice A q.length c).ownBlock = some k → base ≤ k ∧ ∃ cur, w.heap[k]? = some (.cells cur 116 (0, 0)) := by
    intro k hk
    rcases hrow.2 with ⟨hn, _⟩ | ⟨b, cap, cur, hn, hb, hh, _⟩
    · rw [hn] at hk; simp [Value.ownBlock] at hk
    · rw [hn] at hk
      have : b = k := by simpa [Value.ownBlock] using hk
      subst this
      exact ⟨hb, cur, hh⟩
  have hgne : some g ≠ (Value.slice A q.length c).ownBlock := by
    intro e
    obtain ⟨_, cur, hh⟩ := hrowne g e.symm
    exact ne_of_types h1 hh (by decide) rfl
  have h4g : w4.heap[g]? = some (.cells #[v] 111 (0, 0)) := (hg.block g (by omega) hgne).trans ((halloc g hgl).trans h1)
  have hsz : w.heap.size ≤ w4.heap.size := by have := hg.size; omega
  have hkeep : ∀ k, k < w.heap.size → some k ≠ (Value.slice A q.length c).ownBlock → k ≠ g → (w4.setCell ⟨g, 0, none⟩ v2).heap[k]? = w.heap[k]? := fun k hk hne hkg => by
    rw [Below.heap_setCell w4 ⟨g, 0, none⟩ v2 k hkg, hg.block k (by omega) hne, halloc k hk]
  have hset : (w4.setCell ⟨g, 0, none⟩ v2).heap[g]? = some (.cells #[v2] 111 (0, 0)) := by
    rw [heap_setCell_same w4 g 0 _ _ v2 h4g]; rfl
  refine ⟨⟨v, by simp [World.cell?, h4g]⟩, frozen_of_row w4 g 0 _ _ h4g, ⟨v2, hset, h2, ?_, ?_⟩, ⟨?_, ?_, ?_, ?_, ?_⟩, ⟨?_, ?_, ?_, ?_, ?_⟩⟩
  · have e : flat (q ++ [a]) = flat q ++ a.cells := by rw [flat_append]; simp [flat]
    rw [e, List.length_append, List.length_singleton]
    refine ownsRow_setCell_other hown ?_ v2
    intro e2
    rcases hown.2 with ⟨hn, _⟩ | ⟨b, cap, cur, hn, hb, hh, _⟩
    · rw [hn] at e2; simp [Value.ownBlock] at e2
    · rw [hn] at e2
      have : b = g := by simpa [Value.ownBlock] using e2
      subst this
      exact ne_of_types h4g hh (by decide) rfl
  · intro x hx
    have key : w.ownsRow base 9 1 x.val x.paths.length (strs x.paths) ∧ (∀ s ∈ x.paths, s.size ≤ 64) ∧ x.paths.length ≤ 16 := by
      rcases List.mem_append.1 hx with hx | hx
      · exact h4 x hx
      · rw [List.mem_singleton.1 hx]; exact ha
    refine ⟨?_, key.2⟩
    obtain ⟨k1, k2⟩ := key.1
    refine ⟨k1, ?_⟩
    rcases k2 with k2 | ⟨b, cap, cur, hn, hb, hh, r⟩
    · exact .inl k2
    · refine .inr ⟨b, cap, cur, hn, hb, (hkeep b (lt_of_block hh) ?_ (ne_of_types hh h1 (by decide))).trans hh, r⟩
      intro e
      obtain ⟨_, cur2, hh2⟩ := hrowne b e.symm
      exact ne_of_types hh hh2 (by decide) rfl
  · exact (hg.os).trans rfl
  · exact (hg.tape).trans rfl
  · exact (hg.output).trans rfl
  · simpa using hsz
  · intro k hk
    refine hkeep k (by omega) (fun e => ?_) (by omega)
    have := (hrowne k e.symm).1
    omega
  · exact (hg.os).trans rfl
  · exact (hg.tape).trans rfl
  · exact (hg.output).trans rfl
  · simpa using hsz
  · intro k hk ht
    refine hkeep k hk (fun e => ?_) (fun e => ?_)
    · obtain ⟨_, cur, hh⟩ := hrowne k e.symm
      exact ht cur _ hh (by decide)
    · subst e
      exact ht _ _ h1 (by decide)
def LRow.give (a : LRow) (h : Bool) : LRow := { a with has := h }
theorem flat_give : ∀ (q : List LRow) (k : Nat) (hk : k < q.length) (h : Bool), flat (q.set k (q[k].give h)) = (flat q).set (k * 3 + 2) (.bool h)
  | a :: r, 0, _, h => by simp [flat, LRow.cells, LRow.give]
  | a :: r, k + 1, hk, h => by
    have ih := flat_give r k (by simpa using hk) h
    have e : (k + 1) * 3 + 2 = (k * 3 + 2) + 3 := by omega
    rw [e]
    simp only [flat, List.set_cons_succ, List.flatMap_cons, List.getElem_cons_succ, LRow.cells, List.cons_append, List.nil_append] at ih ⊢
    rw [ih]
/-- A has is written. -/
theorem LocksAt.give {w : World} {base g b c k : Nat} {q : List LRow} (h : LocksAt w base g q) (hrow : w.ownsRow base 116 3 (.slice (some ⟨b, 0, none⟩) q.length c) q.length (flat q)) (hcell : w.cell? ⟨g, 0, none⟩ = some (.slice (some ⟨b, 0, none⟩) q.length c)) (hk : k < q.length) (x : Bool) :
    LocksAt (w.setCell ⟨b, k * 3 + 2, none⟩ (.bool x)) base g (q.set k (q[k].give x)) ∧ Below base w (w.setCell ⟨b, k * 3 + 2, none⟩ (.bool x)) ∧ FrameT lockTs w (w.setCell ⟨b, k * 3 + 2, none⟩ (.bool x)) ∧
      (w.setCell ⟨b, k * 3 + 2, none⟩ (.bool x)).cell? ⟨g, 0, none⟩ = some (.slice (some ⟨b, 0, none⟩) q.length c) := by
  obtain ⟨v, h1, h2, _, h4⟩ := h
  have hv : v = .slice (some ⟨b, 0, none⟩) q.length c := by
    have : w.cell? ⟨g, 0, none⟩ = some v := by simp [World.cell?, h1]
    rw [this] at hcell
    exact Option.some.inj hcell
  obtain ⟨cur, hb, hcur⟩ : ∃ cur, base ≤ b ∧ w.heap[b]? = some (.cells cur 116 (0, 0)) := by
    rcases hrow.2 with ⟨hn, _⟩ | ⟨b', cap, cur, hn, hb, hh, _⟩
    · simp at hn
    · simp at hn
      obtain ⟨rfl, _⟩ := hn
      exact ⟨cur, hb, hh⟩
  have hgb : g ≠ b := ne_of_types h1 hcur (by decide)
  have hst := hrow.stored (k * 3 + 2) (.bool x)
  have hother : ∀ j, j ≠ b → (w.setCell ⟨b, k * 3 + 2, none⟩ (.bool x)).heap[j]? = w.heap[j]? := fun j hj => Below.heap_setCell w ⟨b, k * 3 + 2, none⟩ _ j hj
  refine ⟨⟨v, (hother g hgb).trans h1, h2, ?_, ?_⟩, ⟨rfl, rfl, rfl, by simp, fun j hj => hother j (by omega)⟩, ⟨rfl, rfl, rfl, by simp, fun j hj ht => hother j (fun e => by subst e; exact ht _ _ hcur (by decide))⟩, ?_⟩
  · rw [flat_give q k hk x, List.length_set, hv]
    exact hst.1
  · intro a ha
    have key : w.ownsRow base 9 1 a.val a.paths.length (strs a.paths) ∧ (∀ s ∈ a.paths, s.size ≤ 64) ∧ a.paths.length ≤ 16 := by
      rcases List.mem_or_eq_of_mem_set ha with ha | ha
      · exact h4 a ha
      · subst ha; exact h4 q[k] (List.getElem_mem hk)
    refine ⟨?_, key.2⟩
    obtain ⟨k1, k2⟩ := key.1
    refine ⟨k1, ?_⟩
    rcases k2 with k2 | ⟨b', cap, cur', hn, hb', hh, r⟩
    · exact .inl k2
    · exact .inr ⟨b', cap, cur', hn, hb', (hother b' (ne_of_types hh hcur (by decide))).trans hh, r⟩
  · have : (w.setCell ⟨b, k * 3 + 2, none⟩ (.bool x)).cell? ⟨g, 0, none⟩ = w.cell? ⟨g, 0, none⟩ := World.cell?_of_block (hother g hgb)
    rw [this]; exact hcell
theorem freeQ_last (q : List LRow) (a : LRow) : freeQ (q ++ [a]) q.length = !q.any fun x => meetB x.paths a.paths := by
  have e : (q ++ [a]).getD q.length zRow = a := by simp [List.getD]
  rw [freeQ, e, List.take_left']
  rfl
theorem ask_done {q : List LRow} {who : Int} {ps xs : List ByteArray} {base g : Nat} {w w' : World} {v : Value} {a : LRow} {fr : Bool} (he : askErr q who ps = (SetR.ok xs).err) (hx : setGo 0 [] ps = .ok xs) (ha : a = ⟨who, v, xs, false⟩) (hfr : fr = freeQ (q ++ [a]) q.length) (hk : q.length < (q ++ [a]).length)
    (hl : LocksAt w' base g ((q ++ [a]).set q.length ((q ++ [a])[q.length].give fr))) (hb : Below base w w') (hf : FrameT lockTs w w') :
    AskPost q who ps base g w (.returned (.tuple #[.bool fr, .nilIface])) w' := by
  have hnum : (askErr q who ps).num = 0 := by rw [he]; rfl
  have hhas : askHas q who ps = fr := by
    rw [askHas, decide_eq_true hnum, hx, hfr, freeQ_last, ha]
    rfl
  have hset : (q ++ [a]).set q.length ((q ++ [a])[q.length].give fr) = askNext q who ps v := by
    rw [askNext, if_pos hnum, hhas, hx]
    have e : (q ++ [a])[q.length] = a := by simp
    rw [e, List.set_append_right _ _ (Nat.le_refl _), Nat.sub_self, ha]
    rfl
  refine ⟨.nilIface, v, by rw [hhas], by rw [he]; rfl, by rw [← hset]; exact hl, hb, hf⟩
set_option maxRecDepth 100000 in
set_option maxHeartbeats 4000000 in
theorem ask_any (g : Nat) (who : Int) (A : Option Addr) (c : Nat) (ps : List ByteArray) (q : List LRow) (w : World) {base : Nat} (hq : q.length ≤ 64) (hl : LocksAt w base g q) (hbase : base ≤ w.heap.size)
    (hps : ps.length ≤ 1000) (hr : TextRow w A ps) (hz : ∀ s ∈ ps, s.size ≤ 140737488351232) (hg : EnvM w) :
    Calls Tryd.prog 18 #[.pointer (some ⟨g, 0, none⟩), .int .i64 who, .slice A ps.length c] w (AskPost q who ps base g w) := by
  have HL := Lib.hid hl
  have HF := Lib.hid (find_any g who q w (by omega) hl)
  have HR := Lib.hid hr
  have HZ := Lib.hid hz
  have HG := Lib.hid hg
  clear hl hr hz hg
  by_cases h1 : 0 ≤ findQ q who
  · have HE : Hid (askErr q who ps = .errno 5) := Lib.hid (by rw [askErr, if_pos h1])
    obtain ⟨k, hk⟩ : ∃ k : Nat, findQ q who = k := ⟨(findQ q who).toNat, by omega⟩
    have hf := HF.out
    rw [hk] at hf
    have HF2 := Lib.hid hf
    clear hf HF hk h1
    go_enter Tryd.func18, Tryd.ntmps18
    go_wp2_with fail
    refine HF2.out.mono ?_
    rintro e w2 ⟨rfl, hb2⟩
    go_wp2_with fail
    go_ret2
    exact ask_refused HE.out (by decide) rfl HL.out hb2 hbase
  · have hm : findQ q who = -1 := by rcases findQ_cases q who with h | ⟨k, _, h⟩ <;> omega
    have hf := HF.out
    rw [hm] at hf
    have HF2 := Lib.hid hf
    clear hf HF
    have HM := Lib.hid hm
    have H1 := Lib.hid h1
    clear hm h1
    obtain ⟨A0, c0, hc, hcap, hrows⟩ := HL.out.form
    have HC := Lib.hid hc
    have HRO := Lib.hid hrows
    clear hc hrows
    by_cases h2 : q.length = 64
    · have HE : Hid (askErr q who ps = .errno 3) := Lib.hid (by rw [askErr, if_neg H1.out, if_pos h2])
      have h2b : ((q.length : Int) == 64) = true := by simp [h2]
      go_enter Tryd.func18, Tryd.ntmps18
      go_wp2_with fail
      refine HF2.out.mono ?_
      rintro e w2 ⟨rfl, hb2⟩
      have hc2 := cell_below hb2 HC.out
      go_wp2_with fail
      go_ret2
      exact ask_refused HE.out (by decide) rfl HL.out hb2 hbase
    · have h2b : ((q.length : Int) == 64) = false := by simp; omega
      by_cases h3 : 16 < ps.length
      · have HE : Hid (askErr q who ps = .errno 2) := Lib.hid (by rw [askErr, if_neg H1.out, if_neg h2, if_pos h3])
        have h3b : decide ((16 : Int) < (ps.length : Int)) = true := by simp; omega
        go_enter Tryd.func18, Tryd.ntmps18
        go_wp2_with fail
        refine HF2.out.mono ?_
        rintro e w2 ⟨rfl, hb2⟩
        have hc2 := cell_below hb2 HC.out
        go_wp2_with fail
        go_ret2
        exact ask_refused HE.out (by decide) rfl HL.out hb2 hbase
      · have h3b : decide ((16 : Int) < (ps.length : Int)) = false := by simp; omega
        have HE : Hid (askErr q who ps = (setGo 0 [] ps).err) := Lib.hid (by rw [askErr, if_neg H1.out, if_neg h2, if_neg h3])
        obtain ⟨r, hr⟩ : ∃ r, r = setGo 0 [] ps := ⟨_, rfl⟩
        have HRE := Lib.hid hr
        have he2 := HE.out
        rw [← hr] at he2
        have HE2 := Lib.hid he2
        clear HE he2 hr
        go_enter Tryd.func18, Tryd.ntmps18
        go_wp2_with fail
        refine HF2.out.mono ?_
        rintro e w2 ⟨rfl, hb2⟩
        have hc2 := cell_below hb2 HC.out
        go_wp2_with fail
        refine (set_any A c ps _ hps (HR.out.below hb2) HZ.out (HG.out.below hb2)).mono ?_
        rw [← HRE.out]
        rintro e w3 ⟨hb3, v1, er, rfl, hve, ho1⟩
        have hb13 := below_from hb2 hb3
        have HV := Lib.hid hve
        have HO := Lib.hid ho1
        clear hve ho1 hc2
        cases r with
        | none_ i =>
          obtain ⟨b, s, n, cc, b1, hve, _⟩ := HV.out
          subst hve
          go_wp2_with fail
          go_ret2
          exact ask_refused HE2.out (by show (90 : Int) ≠ 0; decide) HV.out HL.out hb13 hbase
        | bad i cd =>
          obtain ⟨b, hve, _⟩ := HV.out
          subst hve
          go_wp2_with fail
          go_ret2
          refine ask_refused HE2.out ?_ HV.out HL.out hb13 hbase
          rcases setGo_two ps 0 [] HRE.out.symm with h | h <;> subst h <;> (first | (show (5 : Int) ≠ 0; decide) | (show (90 : Int) ≠ 0; decide))
        | ok xs =>
          have hve : er = .nilIface := HV.out
          subst hve
          have HL3 := Lib.hid (HL.out.below hb13)
          have hxs : setGo 0 [] ps = .ok xs := HRE.out.symm
          have hx64 : ∀ s ∈ xs, s.size ≤ 64 := by
            have := setGo_small ps 0 [] (fun s hs => by cases hs)
            rw [hxs] at this
            exact this
          have hxl : xs.length ≤ 16 := by
            have := setGo_len ps 0 []
            rw [hxs] at this
            simp [SetR.outs] at this
            omega
          have ho2 : w3.ownsRow base 9 1 v1 xs.length (strs xs) := own_mono HO.out (Nat.le_trans hbase hb2.size)
          obtain ⟨A1, c1, rfl, hc1, ht1⟩ := own_row ho2
          obtain ⟨AR, cR, hc3, hfr3, hrow3⟩ := HL3.out.row
          have hbase3 : base ≤ w3.heap.size := Nat.le_trans hbase hb13.size
          have HO2 := Lib.hid ho2
          have HX64 := Lib.hid hx64
          have HROW := Lib.hid hrow3
          obtain ⟨i0, hi0, hz0, hz1, hz2⟩ := info_parts infoAsk
          have hown0 : Hid ((w3.alloc (.cells #[.int .i64 who, .slice A1 xs.length c1, .bool false] 116)).ownsRow base 116 3 (.slice AR q.length cR) q.length (flat q)) := own_stay HROW.out (below_one w3 _)
          have hsrc : Hid (∀ j u, ([.int .i64 who, .slice A1 xs.length c1, .bool false] : List Value)[j]? = some u → (w3.alloc (.cells #[.int .i64 who, .slice A1 xs.length c1, .bool false] 116)).cell? ((⟨w3.heap.size, 0, none⟩ : Addr).add j) = some u) := by
            intro j u hj
            rw [Addr.add_lit, World.cell?_alloc_at _ _ _ _ rfl]
            match j, hj with
            | 0, hj => simpa using hj
            | 1, hj => simpa using hj
            | 2, hj => simpa using hj
          have hone : Hid (∀ u ∈ ([.int .i64 who, .slice A1 xs.length c1, .bool false] : List Value), u.oneCell' = true) := by
            intro u hu
            simp at hu
            rcases hu with rfl | rfl | rfl <;> rfl
          clear ht1 hrow3 hx64 ho2 hxs
          go_wp2_with (at_builtin; go_loud (refine wpList_append_own _ rfl (.tmp 42) (.tmp 46) 109 rfl base 116 i0 (.agg #[.int .i64 0, .slice none 0 0, .bool false]) 3 40 Tryd.underlying109 hi0 hz0 hz1 hz2 rfl (by decide) (.slice AR q.length cR) q.length (flat q) (by simp [Act.eval, Act.put]) hown0.out ⟨w3.heap.size, 0, none⟩ 1 1 [.int .i64 who, .slice A1 xs.length c1, .bool false] (by simp [Act.eval, Act.put]) (by simp) hsrc.out hone.out (by unfold maxLen; omega) (by omega) (by simp; omega) ?_); intro v2 w4 hown hgrow _; obtain ⟨b2, cap2, hv2, _, _⟩ := hown.form (by omega); subst hv2; obtain ⟨⟨vv, hgc⟩, hgf, hl4, hb4, hf4⟩ := HL3.out.push (a := ⟨who, .slice A1 xs.length c1, xs, false⟩) HROW.out hbase3 ⟨HO2.out, HX64.out, hxl⟩ hown hgrow; have HL4 := Lib.hid hl4; have HB4 := Lib.hid hb4; have HF4 := Lib.hid hf4; clear hl4 hb4 hf4 hown hgrow)
          obtain ⟨a, ha⟩ : ∃ a : LRow, a = ⟨who, .slice A1 xs.length c1, xs, false⟩ := ⟨_, rfl⟩
          have HLq := HL4.out
          rw [← ha] at HLq
          have hql : (q ++ [a]).length = q.length + 1 := by simp
          obtain ⟨A5, c5, hc5, hfr5, hrow5⟩ := HLq.row
          have hcs : (w4.setCell ⟨g, 0, none⟩ (.slice (some ⟨b2, 0, none⟩) (q.length + 1) cap2)).cell? ⟨g, 0, none⟩ = some (.slice (some ⟨b2, 0, none⟩) (q.length + 1) cap2) := World.cell?_setCell_same _ _ _ hgc
          rw [hcs, hql] at hc5
          obtain ⟨rfl, rfl⟩ : A5 = some ⟨b2, 0, none⟩ ∧ c5 = cap2 := by
            injection hc5 with hc5
            injection hc5 with e1 e2 e3
            exact ⟨e1.symm, e3.symm⟩
          generalize hW5 : w4.setCell ⟨g, 0, none⟩ (.slice (some ⟨b2, 0, none⟩) (q.length + 1) c5) = W5 at *
          have hk1 : q.length < (q ++ [a]).length := by omega
          have HF5 := Lib.hid (fun X (hb : Below W5.heap.size W5 X) => free_any g q.length (q ++ [a]) X (by omega) hk1 (HLq.below hb))
          have hcell5 := (hrow5.cellAt (q.length * 3 + 2) (by omega)).trans (flat_get (q ++ [a]) q.length hk1 2 (by omega))
          have hfz5 := hrow5.frozenAt (q.length * 3 + 2)
          have hcell6 : W5.cell? ⟨b2, q.length * 3 + 2, none⟩ = some (.bool false) := by
            rw [hcell5, List.getElem_append_right (Nat.le_refl _)]
            simp [LRow.cells, ha]
          have HLQ := Lib.hid HLq
          have HRW := Lib.hid hrow5
          have HA := Lib.hid ha
          have h5 : Hid (∀ X, Below W5.heap.size W5 X → X.cell? ⟨g, 0, none⟩ = some (.slice (some ⟨b2, 0, none⟩) (q.length + 1) c5) ∧ X.cell? ⟨b2, q.length * 3 + 2, none⟩ = some (.bool false) ∧ X.frozen? ⟨b2, q.length * 3 + 2, none⟩ = false) := fun X hX => ⟨cell_below hX hcs, cell_below hX hcell6, frozen_below hX hcell6 hfz5⟩
          have HK1 := Lib.hid hk1
          clear HLq hrow5 hcell5 ha hfr5 hgc hgf hql hk1
          go_region_with (go_at_call 53; refine (HF5.out _ ?hb0).mono ?_; (case hb0 => exact (Below.refl _ _).drew); rintro e w6 ⟨rfl, hb6⟩; obtain ⟨x1, x2, x3⟩ := h5.out w6 (Below.trans (Below.drew (Below.refl _ _)) hb6))
          all_goals (
            have hb56 : Below W5.heap.size W5 w6 := Below.trans (Below.drew (Below.refl _ _)) hb6
            have hrw6 : w6.ownsRow base 116 3 (.slice (some ⟨b2, 0, none⟩) (q ++ [a]).length c5) (q ++ [a]).length (flat (q ++ [a])) := own_stay HRW.out hb56
            have hx1 : w6.cell? ⟨g, 0, none⟩ = some (.slice (some ⟨b2, 0, none⟩) (q ++ [a]).length c5) := by rw [List.length_append]; exact x1
            obtain ⟨hl7, hb7, hf7, hc7⟩ := (HLQ.out.below hb56).give hrw6 hx1 HK1.out (freeQ (q ++ [a]) q.length)
            rw [List.length_append, List.length_singleton] at hc7
            have HL7 := Lib.hid hl7
            have HB7 := Lib.hid (Below.trans (Below.trans (hb13.mono hbase) HB4.out) (Below.trans (hb56.mono (Nat.le_trans hbase3 HB4.out.size)) hb7))
            have HF7 := Lib.hid (FrameT.trans (FrameT.trans (FrameT.of_below hb13) HF4.out) (FrameT.trans (FrameT.of_below hb56) hf7))
            have hc8 : (w6.setCell ⟨b2, q.length * 3 + 2, none⟩ (.bool (freeQ (q ++ [a]) q.length))).cell? ⟨b2, q.length * 3 + 2, none⟩ = some (.bool (freeQ (q ++ [a]) q.length)) := World.cell?_setCell_same _ _ _ x2
            obtain ⟨fr, hfr⟩ : ∃ fr, fr = freeQ (q ++ [a]) q.length := ⟨_, rfl⟩
            rw [← hfr] at hc7 hc8 HL7 HB7 HF7 ⊢
            have HFR := Lib.hid hfr
            clear hl7 hb7 hf7 hrw6 hx1 hb56 hfr x1 x2 x3 hb6
            generalize w6.setCell ⟨b2, q.length * 3 + 2, none⟩ (.bool fr) = w7 at *
            go_wp2_with fail
            go_ret2
            exact ask_done HE2.out HRE.out.symm HA.out HFR.out HK1.out HL7.out HB7.out HF7.out)
end Go.Proofs.YtaaeobdihfbjfaaDoor
