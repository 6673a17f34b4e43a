/-
  What stays in memory while LockEnds goes on.
-/
import Derived.Test.YtaaeobdihfbjfaaDoorLockAloneW
import Derived.Test.YtaaeobdihfbjfaaDoorLockEndsP
import Derived.Test.YtaaeobdihfbjfaaDoorClone
set_option linter.unusedVariables false
set_option linter.unusedSimpArgs false
namespace Go.Proofs.YtaaeobdihfbjfaaDoor
open Go.RowKit Go.Maps
/-- Rows of whole numbers that were there stay. -/
def KeepI (W wr : World) : Prop := W.heap.size ≤ wr.heap.size ∧ ∀ (k : Nat) (cs : Array Value), W.heap[k]? = some (Obj.cells cs 3 (0, 0)) → wr.heap[k]? = W.heap[k]?
theorem KeepI.refl (W : World) : KeepI W W := ⟨Nat.le_refl _, fun _ _ _ => rfl⟩
theorem KeepI.trans {a b c : World} (h1 : KeepI a b) (h2 : KeepI b c) : KeepI a c :=
  ⟨Nat.le_trans h1.1 h2.1, fun k cs h => by
    have e := h1.2 k cs h
    rw [h2.2 k cs (e.trans h), e]⟩
theorem KeepI.of_below {w w' : World} (h : Below w.heap.size w w') : KeepI w w' := ⟨h.size, fun k cs hk => h.block k (lt_of_block hk)⟩
theorem KeepI.of_frame {w w' : World} (h : FrameT lockTs w w') : KeepI w w' := ⟨h.size, fun k cs hk => h.block k (lt_of_block hk) (fun cs' t e => by
  rw [hk] at e
  injection e with e
  injection e with _ e1
  rw [← e1]
  decide)⟩
theorem KeepI.of_map {w w' : World} {b : Nat} {es : Array MapEntry} {clock : Nat} (hb : w.heap[b]? = some (.map es clock)) (hg : w.grownBy w' (some b)) : KeepI w w' := ⟨hg.size, fun k cs hk => hg.block k (lt_of_block hk) (fun e => by
  have : k = b := Option.some.inj e
  rw [this, hb] at hk
  cases hk)⟩
/-- .. while a row that came later grows. -/
theorem KeepI.grown {W w w' : World} {row : Option Nat} (h : KeepI W w) (hg : w.grownBy w' row) (hr : ∀ k, row = some k → W.heap.size ≤ k) : KeepI W w' := ⟨Nat.le_trans h.1 hg.size, fun k cs hk => by
  have hkl := lt_of_block hk
  have e := h.2 k cs hk
  rw [hg.block k (by have := h.1; omega) (fun e2 => by have := hr k e2.symm; omega), e]⟩
theorem own_keep {W wr : World} {base n : Nat} {v : Value} {xs : List Value} (h : W.ownsRow base 3 1 v n xs) (hk : KeepI W wr) : wr.ownsRow base 3 1 v n xs := by
  obtain ⟨h1, h2⟩ := h
  refine ⟨h1, ?_⟩
  rcases h2 with h2 | ⟨g, cap, cur, rfl, hbb, hh, r⟩
  · exact .inl h2
  · exact .inr ⟨g, cap, cur, rfl, hbb, (hk.2 g cur hh).trans hh, r⟩
theorem own_prefix1 {w : World} {base : Nat} {e : TypeId} {n k : Nat} {A : Option Addr} {c : Nat} {xs : List Value} (h : w.ownsRow base e 1 (.slice A n c) n xs) (hk : k ≤ n) : w.ownsRow base e 1 (.slice A k c) k (xs.take k) := by
  have := own_prefix h hk
  rwa [Nat.mul_one] at this
/-- The rest of a row behind a place, as a source of an append. -/
theorem rest_src {w : World} {base k n c0 b : Nat} {xs : List Value} (hown : w.ownsRow base 3 1 (.slice (some ⟨b, 0, none⟩) n c0) n xs) (hk : k < n) :
    ∃ A : Addr, (if c0 = k + 1 then some (⟨b, 0, none⟩ : Addr) else some ⟨b, k + 1, none⟩) = some A ∧ ∀ t u, (xs.drop (k + 1))[t]? = some u → w.cell? (A.add t) = some u := by
  have hxl : xs.length = n := by have := hown.1; omega
  by_cases h : c0 = k + 1
  · refine ⟨⟨b, 0, none⟩, by simp [h], fun t u hu => ?_⟩
    have hc : n ≤ c0 := by
      rcases hown.2 with ⟨h1, _⟩ | ⟨g, cap, cur, h1, _, _, hc, _⟩
      · cases h1
      · injection h1 with _ _ e
        omega
    have h0 : xs.drop (k + 1) = [] := List.drop_of_length_le (by omega)
    rw [h0] at hu
    simp at hu
  · refine ⟨⟨b, k + 1, none⟩, by simp [h], fun t u hu => ?_⟩
    have h1 : xs[k + 1 + t]? = some u := by rw [← hu, List.getElem?_drop]
    have hlt := (List.getElem?_eq_some_iff.1 h1).1
    rw [Addr.add_lit]
    exact (hown.cellAt (k + 1 + t) (by omega)).trans h1
theorem AloneAt.mapped {w0 wr wr' : World} {base g b b2 n : Nat} {ov : Value} {q : List LRow} {m : Lit → Option Value} {es : Array MapEntry} {clock : Nat} (h : AloneAt w0 wr base g b n ov q m) (hb2 : wr.heap[b2]? = some (.map es clock)) (hne : b ≠ b2) (hbase : base ≤ b2) (hbs : base ≤ wr.heap.size) (hg : wr.grownBy wr' (some b2)) : AloneAt w0 wr' base g b n ov q m :=
  ⟨h.bel.trans ((Below.refl _ _).grown hg hbs (fun k hk => by cases hk; exact hbase)), h.locks.mapped hb2 hg, h.map.grown hg (fun e => hne (Option.some.inj e)), own_mapped h.ord hb2 hg, h.al, h.wf⟩
theorem block_below {w w' : World} {b : Nat} {o : Obj} (h : w.heap[b]? = some o) (hb : Below w.heap.size w w') : w'.heap[b]? = some o := (hb.block b (lt_of_block h)).trans h
/-- A block of another type stays while a row grows. -/
theorem op_grown {w w' : World} {base n size b : Nat} {e t : TypeId} {v : Value} {xs : List Value} {cs : Array Value} (h : w.heap[b]? = some (.cells cs t (0, 0))) (ho : w.ownsRow base e size v n xs) (hne : t ≠ e) (hg : w.grownBy w' v.ownBlock) : w'.heap[b]? = some (.cells cs t (0, 0)) := by
  refine (hg.block b (lt_of_block h) (fun e2 => ?_)).trans h
  rcases ho.2 with ⟨rfl, _⟩ | ⟨g, cap, cur, rfl, _, hh, _⟩
  · simp [Value.ownBlock] at e2
  · have : b = g := by simpa [Value.ownBlock] using e2
    rw [this, hh] at h
    injection h with h
    injection h with _ h2
    exact hne h2.symm
/-- The numbers that a map tells. -/
def Reads (mh : Lit → Option Value) (hd : Int → Int) : Prop := ∀ x : Int, (mh (.int .i64 x)).getD (.int .i64 0) = .int .i64 (hd x)
theorem reads_none : Reads (fun _ => none) (fun _ => 0) := fun _ => rfl
theorem Reads.put {mh : Lit → Option Value} {hd : Int → Int} {n : Int} {l : List Int} {t : Nat} (h : Reads mh (hdT hd n l t)) {x : Int} (hx : x = l.getD t 0) : Reads (upd mh (.int .i64 x) (.int .i64 (n + t + 1))) (hdT hd n l (t + 1)) := fun y => by
  by_cases e : y = x
  · subst e
    rw [upd_same (kl := .int .i64 y) trivial, hdT, if_pos hx]
    rfl
  · rw [upd_other (int_ne e), hdT, if_neg (fun h2 => e (h2.trans hx.symm))]
    exact h y
/-- Who has theirs among the first j. -/
def hasL (q : List LRow) (j : Nat) : List Int := ((q.map LRow.who).take j).filter (hasQ q)
theorem hasL_len (q : List LRow) (j : Nat) : (hasL q j).length ≤ j := Nat.le_trans (List.length_filter_le _ _) (by simp; omega)
theorem hasL_no {q : List LRow} {j : Nat} (hj : j < q.length) (h : hasQ q q[j].who = false) : hasL q (j + 1) = hasL q j := by
  unfold hasL
  rw [List.take_succ_eq_append_getElem (by simpa using hj), List.filter_append]
  simp [h]
theorem hasL_yes {q : List LRow} {j : Nat} (hj : j < q.length) (h : hasQ q q[j].who = true) : hasL q (j + 1) = hasL q j ++ [q[j].who] := by
  unfold hasL
  rw [List.take_succ_eq_append_getElem (by simpa using hj), List.filter_append]
  simp [h]
theorem hasL_all (q : List LRow) : hasL q q.length = hs0 q := by
  unfold hasL hs0
  rw [List.take_of_length_le (by simp)]
theorem hs0_mem {q : List LRow} {x : Int} (h : x ∈ hs0 q) : x ∈ q.map LRow.who := (List.mem_filter.1 h).1
theorem intZero (w : World) : (zeroValue 3).run Tryd.prog w = .ok (.int .i64 0) w := by kernel_rfl
theorem int_at {w : World} {base : Nat} {A : Option Addr} {n c : Nat} {xs : List Int} (h : w.ownsRow base 3 1 (.slice A n c) n (intsV xs)) {k : Nat} (hk : k < xs.length) : ∃ b, A = some ⟨b, 0, none⟩ ∧ w.cell? ⟨b, k, none⟩ = some (.int .i64 xs[k]) := by
  have hl : xs.length = n := by have := h.1; simp [intsV] at this; omega
  subst hl
  exact int_cell h hk
/-- What is kept across a round of releases. -/
structure EndsAt (w0 W1 wr : World) (base g b b2 n0 n2 : Nat) (ov hv : Value) (q0 q : List LRow) (m mh : Lit → Option Value) (hs : List Int) (hd : Int → Int) (n : Nat) : Prop where
  bel : Below base w0 wr
  locks : LocksAt wr base g q
  map : MapAs wr Tryd.prog 3 b n0 m
  ord : W1.ownsRow base 3 1 ov q0.length (intsV (q0.map LRow.who))
  keep : KeepI W1 wr
  hmap : MapAs wr Tryd.prog 3 b2 n2 mh
  hrow : wr.ownsRow W1.heap.size 3 1 hv hs.length (intsV hs)
  ends : Ends q0 q hs hd n
  reads : Reads mh hd
/-- What is kept while those who are told are written down. -/
structure EndsMid (w0 W5 wr : World) (base g b b2 n0 n2 : Nat) (hv : Value) (q : List LRow) (m mh : Lit → Option Value) (hs : List Int) (hd : Int → Int) : Prop where
  bel : Below base w0 wr
  locks : LocksAt wr base g q
  map : MapAs wr Tryd.prog 3 b n0 m
  keep : KeepI W5 wr
  hmap : MapAs wr Tryd.prog 3 b2 n2 mh
  hrow : wr.ownsRow W5.heap.size 3 1 hv hs.length (intsV hs)
  reads : Reads mh hd
theorem EndsMid.laid {w0 W5 wr : World} {base g b b2 n0 n2 : Nat} {hv : Value} {q : List LRow} {m mh : Lit → Option Value} {hs : List Int} {hd : Int → Int} (h : EndsMid w0 W5 wr base g b b2 n0 n2 hv q m mh hs hd) (o : Obj) (hsz : base ≤ wr.heap.size) : EndsMid w0 W5 (wr.alloc o) base g b b2 n0 n2 hv q m mh hs hd :=
  have hb := below_one wr o
  ⟨h.bel.trans (hb.mono hsz), h.locks.below hb, h.map.below hb, h.keep.trans (KeepI.of_below hb), h.hmap.below hb, own_stay h.hrow hb, h.reads⟩
/-- .. but for what the map tells. -/
structure EndsMid0 (w0 W5 wr : World) (base g b b2 n0 n2 : Nat) (hv : Value) (q : List LRow) (m mh : Lit → Option Value) (hs : List Int) : Prop where
  bel : Below base w0 wr
  locks : LocksAt wr base g q
  map : MapAs wr Tryd.prog 3 b n0 m
  keep : KeepI W5 wr
  hmap : MapAs wr Tryd.prog 3 b2 n2 mh
  hrow : wr.ownsRow W5.heap.size 3 1 hv hs.length (intsV hs)
theorem EndsMid.stored {w0 W5 wr w8 : World} {base g b b2 n0 n2 : Nat} {hv : Value} {q : List LRow} {m mh : Lit → Option Value} {hs : List Int} {hd : Int → Int} {es : Array MapEntry} {clock : Nat} (h : EndsMid w0 W5 wr base g b b2 n0 n2 hv q m mh hs hd) (hmb : wr.heap[b2]? = some (.map es clock)) (hne : b ≠ b2) (hb2 : base ≤ b2) (hsz : base ≤ wr.heap.size) {mh' : Lit → Option Value} (hm8 : MapAs w8 Tryd.prog 3 b2 (n2 + 1) mh') (hg : wr.grownBy w8 (some b2)) :
    EndsMid0 w0 W5 w8 base g b b2 n0 (n2 + 1) hv q m mh' hs :=
  ⟨h.bel.trans ((Below.refl _ _).grown hg hsz (fun k hk => by cases hk; exact hb2)), h.locks.mapped hmb hg, h.map.grown hg (fun e => hne (Option.some.inj e)), h.keep.trans (KeepI.of_map hmb hg), hm8, own_mapped h.hrow hmb hg⟩
theorem EndsMid0.laid {w0 W5 wr : World} {base g b b2 n0 n2 : Nat} {hv : Value} {q : List LRow} {m mh : Lit → Option Value} {hs : List Int} (h : EndsMid0 w0 W5 wr base g b b2 n0 n2 hv q m mh hs) (o : Obj) (hsz : base ≤ wr.heap.size) : EndsMid0 w0 W5 (wr.alloc o) base g b b2 n0 n2 hv q m mh hs :=
  have hb := below_one wr o
  ⟨h.bel.trans (hb.mono hsz), h.locks.below hb, h.map.below hb, h.keep.trans (KeepI.of_below hb), h.hmap.below hb, own_stay h.hrow hb⟩
/-- The row grows. -/
theorem EndsMid0.grew {w0 W5 wr w9 : World} {base g b b2 n0 n2 : Nat} {hv v9 : Value} {q : List LRow} {m mh : Lit → Option Value} {hs ys : List Int} (h : EndsMid0 w0 W5 wr base g b b2 n0 n2 hv q m mh hs) (hown : wr.ownsRow W5.heap.size 3 1 hv hs.length (intsV hs)) (hsz : base ≤ wr.heap.size) (hsz5 : W5.heap.size ≤ wr.heap.size) (hb5 : base ≤ W5.heap.size) (hg : wr.grownBy w9 hv.ownBlock) (h9 : w9.ownsRow W5.heap.size 3 1 v9 ys.length (intsV ys)) :
    EndsMid0 w0 W5 w9 base g b b2 n0 n2 v9 q m mh ys := by
  obtain ⟨es, ck, hmb⟩ := h.map.isMap
  obtain ⟨es2, ck2, hmb2⟩ := h.hmap.isMap
  have hlt : ∀ k, hv.ownBlock = some k → W5.heap.size ≤ k := fun k hk => (hown.lt k hk).1
  exact ⟨h.bel.trans ((Below.refl _ _).grown hg hsz (fun k hk => Nat.le_trans hb5 (hlt k hk))), (h.locks.grown hown (by decide) hg).1, h.map.grown hg (own_ne hown hmb), h.keep.grown hg hlt, h.hmap.grown hg (own_ne hown hmb2), h9⟩
/-- Whoever is told asked. -/
theorem told_wf {q0 q : List LRow} {hs : List Int} {hd : Int → Int} {n : Nat} (hwf : ∀ x ∈ q0.map LRow.who, (Lit.int .i64 x).wf = true) (h : Ends q0 q hs hd n) {x y : Int} (hy : y ∈ (relQ q x).2.1) : (Lit.int .i64 y).wf = true := by
  refine hwf y ?_
  rcases rel_cases h.once x with hg | ⟨k, hk, hf, _⟩
  · rw [hg] at hy; cases hy
  · obtain ⟨_, _, _, ht⟩ := rel_rows hk hf
    rw [ht, List.mem_map] at hy
    obtain ⟨i, hi, rfl⟩ := hy
    have hil := List.mem_range.1 (List.mem_filter.1 hi).1
    have e : (q.eraseIdx k).getD i zRow = (q.eraseIdx k)[i] := by simp [List.getD, hil]
    rw [e]
    have h1 : (q.eraseIdx k)[i] ∈ q := List.mem_of_mem_eraseIdx (List.getElem_mem hil)
    have h2 : (q.eraseIdx k)[i].who ∈ (sig q).map (·.1) := by
      rw [← who_map2]
      exact List.mem_map.2 ⟨_, h1, rfl⟩
    have h3 := (List.Sublist.map (·.1) h.sub).subset h2
    rw [← who_map2] at h3
    exact h3
theorem ends_small {q0 q : List LRow} {hs : List Int} {hd : Int → Int} {n : Nat} (h : Ends q0 q hs hd n) : n ≤ q0.length := by have := h.cnt; omega
end Go.Proofs.YtaaeobdihfbjfaaDoor
