/-
  What LockAgain's script comes to, in plain Lean.
-/
import Derived.Test.YtkhnfepnapgfaaaDoorLockSig
set_option linter.unusedVariables false
set_option linter.unusedSimpArgs false
namespace Go.Proofs.YtkhnfepnapgfaaaDoor
def tX : ByteArray := ⟨#[120]⟩
def tY : ByteArray := ⟨#[121]⟩
theorem mXX : meetB [tX] [tX] = true := by kernel_rfl
theorem mXY : meetB [tX] [tY] = false := by kernel_rfl
theorem mYX : meetB [tY] [tX] = false := by kernel_rfl
theorem set_X : setGo 0 [] [tX] = .ok [tX] := by kernel_rfl
theorem set_Y : setGo 0 [] [tY] = .ok [tY] := by kernel_rfl
def onX (w : Int) : Int × List ByteArray := (w, [tX])
/-- One has x, one has y, the others wait for x. -/
def StA (q : List LRow) (ws : List Int) : Prop := Sound q ∧ sig q = (-1, [tX]) :: (-2, [tY]) :: ws.map onX ∧ ∀ w ∈ ws, 0 ≤ w
/-- One has y; who stands first has x. -/
def StC (q : List LRow) (xs : List Int) : Prop := Sound q ∧ sig q = (-2, [tY]) :: xs.map onX
theorem row_of_sig {q : List LRow} {i : Nat} (hi : i < q.length) {x : Int × List ByteArray} (h : (sig q)[i]? = some x) : q[i].who = x.1 ∧ q[i].paths = x.2 := by
  rw [sig_get hi] at h
  injection h with h
  rw [← h]
  exact ⟨rfl, rfl⟩
theorem who_map {q : List LRow} : q.map LRow.who = (sig q).map (·.1) := by simp [sig, LRow.sig, Function.comp]
theorem onX_map (ws : List Int) : (ws.map onX).map (·.1) = ws := by
  rw [List.map_map]
  exact List.map_id'' (fun _ => rfl) ws
theorem canA1 (L : List (Int × List ByteArray)) : canS ((-1, [tX]) :: (-2, [tY]) :: L) 1 = true := by simp [canS, mXY]
theorem canA2 (ws : List Int) (i : Nat) (h : i < ws.length) : canS ((-1, [tX]) :: (-2, [tY]) :: ws.map onX) (i + 2) = false := by
  simp [canS, List.getD, h, onX, mXX]
theorem canC1 (x : Int) (L : List (Int × List ByteArray)) : canS ((-2, [tY]) :: onX x :: L) 1 = true := by simp [canS, onX, mYX]
theorem canC2 (x : Int) (xs : List Int) (i : Nat) (h : i < xs.length) : canS ((-2, [tY]) :: onX x :: xs.map onX) (i + 2) = false := by
  simp [canS, List.getD, h, onX, mXX]
theorem stA_len {q : List LRow} {ws : List Int} (h : StA q ws) : q.length = ws.length + 2 := by rw [← sig_length, h.2.1]; simp
theorem stC_len {q : List LRow} {xs : List Int} (h : StC q xs) : q.length = xs.length + 1 := by rw [← sig_length, h.2]; simp
theorem stA_who {q : List LRow} {ws : List Int} (h : StA q ws) {w : Int} (hw : 0 ≤ w) : w ∈ q.map LRow.who ↔ w ∈ ws := by
  rw [who_map, h.2.1]
  simp only [List.map_cons, onX_map, List.mem_cons]
  constructor
  · rintro (h1 | h1 | h1)
    · omega
    · omega
    · exact h1
  · exact fun h1 => .inr (.inr h1)
theorem stA_ask {q : List LRow} {ws : List Int} (h : StA q ws) {w : Int} (hw : 0 ≤ w) (hn : w ∉ ws) (hl : ws.length < 60) : askErr q w [tX] = .nil ∧ askHas q w [tX] = false ∧ ∀ v, StA (askNext q w [tX] v) (ws ++ [w]) := by
  have he : askErr q w [tX] = .nil := ask_new (fun hm => hn ((stA_who h hw).1 hm)) (by have := stA_len h; omega) (by simp) set_X
  refine ⟨he, ?_, fun v => ⟨sound_ask h.1 _ _ _, ?_, fun x hx => ?_⟩⟩
  · rw [askHas_sig he set_X, h.2.1]
    simp [mXX]
  · rw [sig_ask v (by rw [he]; rfl) set_X, h.2.1]
    simp [onX]
  · rcases List.mem_append.1 hx with hx | hx
    · exact h.2.2 x hx
    · rw [List.mem_singleton.1 hx]; exact hw
theorem stA_find {q : List LRow} {ws : List Int} (h : StA q ws) : findQ q (-1) = (0 : Nat) := by
  have hl := stA_len h
  exact findQ_at (k := 0) (by omega) (row_of_sig (x := (-1, [tX])) (by omega) (by rw [h.2.1]; rfl)).1 (fun j hj h => by omega)
theorem stA_rel {q : List LRow} {ws : List Int} (h : StA q ws) : StC (relQ q (-1)).1 ws ∧ (relQ q (-1)).2.2 = 0 := by
  have hs := sig_rel (stA_find h)
  refine ⟨⟨sound_rel h.1 _, ?_⟩, hs.2⟩
  rw [hs.1, h.2.1]
  rfl
theorem filter_one {p : Nat → Bool} : ∀ m, p 0 = false → (0 < m → p 1 = true) → (∀ i, i + 1 < m → p (i + 2) = false) → ((List.range (m + 1)).filter p).length = if m = 0 then 0 else 1
  | 0, h0, _, _ => by simp [List.range_succ, h0]
  | m + 1, h0, h1, h2 => by
    rw [List.range_succ_eq_map, List.range_succ_eq_map, List.filter_cons, h0]
    simp only [List.map_cons, List.map_map]
    rw [if_neg (by simp), List.filter_cons, if_pos (h1 (by omega)), List.filter_eq_nil_iff.2 ?_]
    · simp
    · intro a ha
      obtain ⟨i, hi, rfl⟩ := List.mem_map.1 ha
      have := h2 i (by have := List.mem_range.1 hi; omega)
      simpa using this
theorem stA_told {q : List LRow} {ws : List Int} (h : StA q ws) : (relQ q (-1)).2.1.length = if ws.length = 0 then 0 else 1 := by
  have hl := stA_len h
  rw [rel_told (stA_find h) (by omega), List.length_map]
  have hl1 : (q.eraseIdx 0).length = ws.length + 1 := by rw [List.length_eraseIdx, if_pos (by omega), hl]; omega
  have hsg : sig (q.eraseIdx 0) = (-2, [tY]) :: ws.map onX := by rw [sig_erase, h.2.1]; rfl
  have hfree : ∀ i, i < ws.length + 1 → freeQ (q.eraseIdx 0) i = canS ((-2, [tY]) :: ws.map onX) i := fun i hi => by rw [freeQ_sig _ (by omega), hsg]
  have hhas : ∀ i, (hi : i < ws.length + 1) → ((q.eraseIdx 0).getD i zRow).has = canS (sig q) (i + 1) := fun i hi => by
    have h1 : i < (q.eraseIdx 0).length := by omega
    have h2 : i + 1 < q.length := by omega
    have e : (q.eraseIdx 0).getD i zRow = q[i + 1] := by
      rw [List.getD_eq_getElem?_getD, List.getElem?_eq_getElem h1, Option.getD_some, List.getElem_eraseIdx_of_ge _ (by omega)]
    rw [e, h.1 _ h2, freeQ_sig _ h2]
  have e : q.length - 1 = ws.length + 1 := by omega
  rw [e]
  refine filter_one ws.length ?_ (fun hm => ?_) (fun i hi => ?_)
  · rw [hhas 0 (by omega), h.2.1, canA1]; rfl
  · rw [hhas 1 (by omega), h.2.1, canA2 ws 0 hm, hfree 1 (by omega)]
    cases ws with
    | nil => simp at hm
    | cons x xs => rw [List.map_cons, canC1]; rfl
  · rw [hfree (i + 2) (by omega)]
    cases ws with
    | nil => simp at hi
    | cons x xs =>
      rw [List.map_cons, canC2 x xs i (by simp at hi; omega)]
      simp
theorem stC_ask {q : List LRow} {ws : List Int} (h : StC q ws) (hw : ∀ w ∈ ws, 0 ≤ w) (hl : ws.length < 60) : askErr q (-1) [tX] = .nil ∧ askHas q (-1) [tX] = decide (ws.length = 0) ∧ ∀ v, StC (askNext q (-1) [tX] v) (ws ++ [-1]) := by
  have hn : (-1 : Int) ∉ q.map LRow.who := by
    rw [who_map, h.2]
    simp only [List.map_cons, onX_map, List.mem_cons]
    rintro (h1 | h1)
    · omega
    · have := hw _ h1; omega
  have he : askErr q (-1) [tX] = .nil := ask_new hn (by have := stC_len h; omega) (by simp) set_X
  refine ⟨he, ?_, fun v => ⟨sound_ask h.1 _ _ _, ?_⟩⟩
  · rw [askHas_sig he set_X, h.2]
    cases ws with
    | nil => simp [mYX]
    | cons x xs => simp [mYX, mXX, onX]
  · rw [sig_ask v (by rw [he]; rfl) set_X, h.2]
    simp [onX]
theorem stC_two {q : List LRow} {xs : List Int} (h : StC q xs) : hasQ q (-2) = true := by
  have hl := stC_len h
  rw [has_at h.1 (k := 0) (by omega) (row_of_sig (x := (-2, [tY])) (by omega) (by rw [h.2]; rfl)).1 (fun j hj h => by omega)]
  rfl
theorem stC_hold {q : List LRow} {x : Int} {xs : List Int} (h : StC q (x :: xs)) : holderQ q tX = (x, true) := by
  have hl := stC_len h
  simp only [List.length_cons] at hl
  have h0 := row_of_sig (x := (-2, [tY])) (show 0 < q.length by omega) (by rw [h.2]; rfl)
  have h1 := row_of_sig (x := (x, [tX])) (show 1 < q.length by omega) (by rw [h.2]; rfl)
  have hh : q[1].has = true := by
    rw [h.1 1 (by omega), freeQ_sig q (by omega), h.2, List.map_cons, canC1]
  have heX : (true && [tX].any fun s => s.toList == tX.toList) = true := by kernel_rfl
  have hf := find_at (q := q) (p := LRow.holds tX) (k := 1) (by omega) (by rw [LRow.holds, hh, h1.2]; exact heX) (fun j hj hlt => by
    have : j = 0 := by omega
    subst this
    rw [LRow.holds, h0.2]
    have : ([tY].any fun s => s.toList == tX.toList) = false := by kernel_rfl
    rw [this]
    simp)
  rw [holderQ, hf]
  show (q[1].who, true) = _
  rw [h1.1]
theorem stC_rel {q : List LRow} {x : Int} {xs : List Int} (h : StC q (x :: xs)) (hx : x ≠ -2) : StC (relQ q x).1 xs := by
  have hl := stC_len h
  simp only [List.length_cons] at hl
  have h0 := row_of_sig (x := (-2, [tY])) (show 0 < q.length by omega) (by rw [h.2]; rfl)
  have h1 := row_of_sig (x := (x, [tX])) (show 1 < q.length by omega) (by rw [h.2]; rfl)
  have hf : findQ q x = (1 : Nat) := findQ_at (k := 1) (by omega) h1.1 (fun j hj hlt => by
    have : j = 0 := by omega
    subst this
    rw [h0.1]
    exact fun e => hx e.symm)
  refine ⟨sound_rel h.1 _, ?_⟩
  rw [(sig_rel hf).1, h.2]
  rfl
theorem stC_end {q : List LRow} (h : StC q [-1]) : hasQ q (-1) = true := by
  have hl := stC_len h
  simp only [List.length_cons, List.length_nil] at hl
  have h0 := row_of_sig (x := (-2, [tY])) (show 0 < q.length by omega) (by rw [h.2]; rfl)
  have h1 := row_of_sig (x := (-1, [tX])) (show 1 < q.length by omega) (by rw [h.2]; rfl)
  rw [has_at h.1 (k := 1) (by omega) h1.1 (fun j hj hlt => by
    have : j = 0 := by omega
    subst this
    rw [h0.1]; decide), h.2]
  exact canC1 (-1) []
end Go.Proofs.YtkhnfepnapgfaaaDoor
