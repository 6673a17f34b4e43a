/-
  conf.Parse: what it has in memory, line by line.
-/
import Derived.Test.YtddnfooachibiaaGreatDoorConfSetU
import Derived.Test.YtddnfooachibiaaGreatDoorConfCheck
set_option linter.unusedVariables false
set_option linter.unusedSimpArgs false
namespace Go.Proofs.YtddnfooachibiaaGreatDoor
open Go.RowKit Go.Maps Go.WideMaps Go.WideAt
theorem own_raise {w : World} {base bl : Nat} {e : TypeId} {size n : Nat} {v : Value} {xs : List Value} (h : w.ownsRow base e size v n xs) (hb : ∀ b, v.ownBlock = some b → bl ≤ b) : w.ownsRow bl e size v n xs := by
  obtain ⟨h1, h2⟩ := h
  refine ⟨h1, ?_⟩
  rcases h2 with h2 | ⟨g, cap, cur, rfl, hbb, r⟩
  · exact .inl h2
  · exact .inr ⟨g, cap, cur, rfl, hb g rfl, r⟩
theorem own_lower {w : World} {base bl : Nat} {e : TypeId} {size n : Nat} {v : Value} {xs : List Value} (h : w.ownsRow bl e size v n xs) (hb : base ≤ bl) : w.ownsRow base e size v n xs := by
  obtain ⟨h1, h2⟩ := h
  refine ⟨h1, ?_⟩
  rcases h2 with h2 | ⟨g, cap, cur, rfl, hbb, r⟩
  · exact .inl h2
  · exact .inr ⟨g, cap, cur, rfl, Nat.le_trans hb hbb, r⟩
theorem own_type {w : World} {base size n : Nat} {e : TypeId} {v : Value} {xs : List Value} (h : w.ownsRow base e size v n xs) : ∀ b, v.ownBlock = some b → ∃ cur, w.heap[b]? = some (.cells cur e (0, 0)) := (OffRow.of h).blk
/-- The modules so far. -/
structure PAt (w : World) (base bl : Nat) (cv : Value) (q : List MRow) : Prop where
  row : w.ownsRow base 41 6 cv q.length (flatM q)
  le : bl ≤ w.heap.size
  hbb : base ≤ bl
  us : ∀ r ∈ q, w.ownsRow base 54 2 r.uv r.md.us.length (usC r.md.us)
  old : ∀ r ∈ q.dropLast, ∀ b, r.uv.ownBlock = some b → b < bl
  last : ∀ r, q.getLast? = some r → ∀ b, r.uv.ownBlock = some b → bl ≤ b
theorem PAt.nil {w : World} {base : Nat} (h : base ≤ w.heap.size) : PAt w base w.heap.size (.slice none 0 0) [] := ⟨World.ownsRow_nil _ _ _ _, Nat.le_refl _, h, (fun r h => by cases h), (fun r h => by cases h), (fun r h => by cases h)⟩
theorem PAt.below {w w' : World} {base bl : Nat} {cv : Value} {q : List MRow} (h : PAt w base bl cv q) (hb : Below w.heap.size w w') : PAt w' base bl cv q :=
  ⟨own_stay h.row hb, Nat.le_trans h.le hb.size, h.hbb, fun r hr => own_stay (h.us r hr) hb, h.old, h.last⟩
theorem PAt.fr {S : Nat → Prop} {w w' : World} {base bl : Nat} {cv : Value} {q : List MRow} (h : PAt w base bl cv q) (hf : FrB S w w') (hS : ∀ k cs fr, S k → w.heap[k]? ≠ some (.cells cs 41 fr) ∧ w.heap[k]? ≠ some (.cells cs 54 fr)) : PAt w' base bl cv q :=
  ⟨hf.own h.row (fun b hb hs => by
    obtain ⟨cur, hc⟩ := own_type h.row b hb
    exact (hS b _ _ hs).1 hc), Nat.le_trans h.le hf.size, h.hbb, fun r hr => hf.own (h.us r hr) (fun b hb hs => by
    obtain ⟨cur, hc⟩ := own_type (h.us r hr) b hb
    exact (hS b _ _ hs).2 hc), h.old, h.last⟩
theorem PAt.mods {w : World} {base bl : Nat} {cv : Value} {q : List MRow} (h : PAt w base bl cv q) : ModsIn w cv q := ⟨RowIn.of_own h.row (by decide), fun r hr => RowIn.of_own (h.us r hr) (by decide)⟩
/-- The last module, apart. -/
theorem PAt.setIn {w : World} {base bl : Nat} {cv : Value} {pre : List MRow} {r : MRow} {sb n : Nat} {seen : List ByteArray} (h : PAt w base bl cv (pre ++ [r])) (hs : SeenAt w sb n seen) (hsb : base ≤ sb) : ∃ g cap, cv = .slice (some ⟨g, 0, none⟩) (pre.length + 1) cap ∧ SetIn w base bl g cap pre r sb n seen := by
  have hrow := h.row
  have hl : (pre ++ [r]).length = pre.length + 1 := by simp
  rw [hl] at hrow
  obtain ⟨g, cap, e, hc, hg⟩ := hrow.form (by omega)
  subst e
  exact ⟨g, cap, rfl, ⟨hrow, own_raise (h.us r (by simp)) (h.last r (by simp)), hs, h.le, h.hbb, hsb⟩⟩
/-- A module was set. -/
theorem PAt.set {w w' : World} {base bl : Nat} {g cap : Nat} {pre : List MRow} {r r' : MRow} {sb n n' : Nat} {seen seen' : List ByteArray} (h : PAt w base bl (.slice (some ⟨g, 0, none⟩) (pre.length + 1) cap) (pre ++ [r])) (hs : SeenAt w sb n seen)
    (hf : FrB (SetS g sb r.uv) w w') (hin : SetIn w' base bl g cap pre r' sb n' seen') (hrel : ∀ b, r'.uv.ownBlock = some b → r.uv.ownBlock = some b ∨ w.heap.size ≤ b) : PAt w' base bl (.slice (some ⟨g, 0, none⟩) (pre.length + 1) cap) (pre ++ [r']) := by
  have hl : ∀ x : MRow, (pre ++ [x]).length = pre.length + 1 := fun x => by simp
  have hrow := h.row
  rw [hl] at hrow
  obtain ⟨curM, hgM⟩ := own_type hrow g rfl
  obtain ⟨es, ck, hm⟩ := hs.isMap
  refine ⟨by rw [hl]; exact hin.row, hin.le, h.hbb, fun x hx => ?_, fun x hx => ?_, fun x hx => ?_⟩
  · rcases List.mem_append.1 hx with hx | hx
    · have ho := h.us x (List.mem_append_left _ hx)
      refine hf.own ho (fun b hb hS => ?_)
      obtain ⟨cur, hc⟩ := own_type ho b hb
      rcases hS with rfl | rfl | e
      · rw [hgM] at hc
        injection hc with hc
        injection hc with _ hc
        exact absurd hc (by decide)
      · rw [hm] at hc; cases hc
      · have h1 := h.old x (by simpa using hx) b hb
        have h2 := h.last r (by simp) b e
        omega
    · rw [List.mem_singleton.1 hx]
      exact own_lower hin.us h.hbb
  · have : x ∈ (pre ++ [r]).dropLast := by simpa using hx
    exact h.old x this
  · have hx' : x = r' := by simpa using hx.symm
    subst hx'
    intro b hb
    rcases hrel b hb with e | e
    · exact h.last r (by simp) b e
    · exact Nat.le_trans h.le e
/-- A module more. -/
theorem PAt.more {w w' : World} {base bl : Nat} {cv cv' : Value} {q : List MRow} {r : MRow} (h : PAt w base bl cv q) (ho : w'.ownsRow base 41 6 cv' (q.length + 1) (flatM q ++ r.cells)) (hg : w.grownBy w' cv.ownBlock) (hr : r.uv = .slice none 0 0) (hu : r.md.us = []) : PAt w' base w'.heap.size cv' (q ++ [r]) := by
  have hk : ∀ x ∈ q, w'.ownsRow base 54 2 x.uv x.md.us.length (usC x.md.us) := fun x hx => (OffRow.of h.row).other (h.us x hx) (by decide) hg
  refine ⟨by rw [List.length_append, List.length_singleton, flatM_snoc]; exact ho, Nat.le_refl _, Nat.le_trans h.hbb (Nat.le_trans h.le hg.size), fun x hx => ?_, fun x hx => ?_, fun x hx => ?_⟩
  · rcases List.mem_append.1 hx with hx | hx
    · exact hk x hx
    · rw [List.mem_singleton.1 hx, hr, hu]
      exact World.ownsRow_nil _ _ _ _
  · have hx' : x ∈ q := by simpa using hx
    intro b hb
    exact ((hk x hx').lt b hb).2
  · have hx' : x = r := by simpa using hx.symm
    subst hx'
    intro b hb
    rw [hr] at hb
    simp [Value.ownBlock] at hb
/-- All of it: the configuration, the result's cell, the lines. -/
structure PSt (w wk : World) (cb lb rb : Nat) (arr : Array Value) (bl : Nat) (cv : Value) (q : List MRow) : Prop where
  pat : PAt wk w.heap.size bl cv q
  cell : wk.heap[cb]? = some (.cells #[cv] 25 (0, 0))
  res : wk.heap[rb]? = some (.cells #[.slice none 0 0] 25 (0, 0))
  lines : wk.heap[lb]? = some (.cells arr 9 (0, 0))
  bel : Below w.heap.size w wk
theorem PSt.below {w wk w' : World} {cb lb rb : Nat} {arr : Array Value} {bl : Nat} {cv : Value} {q : List MRow} (h : PSt w wk cb lb rb arr bl cv q) (hb : Below wk.heap.size wk w') : PSt w w' cb lb rb arr bl cv q :=
  ⟨h.pat.below hb, block_below h.cell hb, block_below h.res hb, block_below h.lines hb, below_from h.bel hb⟩
theorem PSt.set {w wk w' : World} {cb lb rb : Nat} {arr : Array Value} {bl g cap : Nat} {pre : List MRow} {r r' : MRow} {sb n n' : Nat} {seen seen' : List ByteArray} (h : PSt w wk cb lb rb arr bl (.slice (some ⟨g, 0, none⟩) (pre.length + 1) cap) (pre ++ [r])) (hi : SetIn wk w.heap.size bl g cap pre r sb n seen)
    (hf : FrB (SetS g sb r.uv) wk w') (hin : SetIn w' w.heap.size bl g cap pre r' sb n' seen') (hrel : ∀ b, r'.uv.ownBlock = some b → r.uv.ownBlock = some b ∨ wk.heap.size ≤ b) : PSt w w' cb lb rb arr bl (.slice (some ⟨g, 0, none⟩) (pre.length + 1) cap) (pre ++ [r']) := by
  obtain ⟨curM, hgM⟩ := own_type hi.row g rfl
  obtain ⟨es, ck, hm⟩ := hi.seen.isMap
  have hne : ∀ {b : Nat} {cs : Array Value} {t : TypeId}, wk.heap[b]? = some (.cells cs t (0, 0)) → t ≠ 41 → t ≠ 54 → ¬ SetS g sb r.uv b := fun {b cs t} hb h1 h2 hS => by
    rcases hS with rfl | rfl | e
    · rw [hgM] at hb
      injection hb with hb
      injection hb with _ hb
      exact h1 hb.symm
    · rw [hm] at hb; cases hb
    · obtain ⟨cur, hc⟩ := own_type hi.us b e
      rw [hc] at hb
      injection hb with hb
      injection hb with _ hb
      exact h2 hb.symm
  exact ⟨h.pat.set hi.seen hf hin hrel, hf.at_ h.cell (hne h.cell (by decide) (by decide)), hf.at_ h.res (hne h.res (by decide) (by decide)), hf.at_ h.lines (hne h.lines (by decide) (by decide)), hi.kept (fun k h => h) hf h.bel⟩
/-- A module more, and the configuration's cell put. -/
theorem PSt.more {w wk w' : World} {cb lb rb : Nat} {arr : Array Value} {bl : Nat} {cv cv' : Value} {q : List MRow} {r : MRow} (h : PSt w wk cb lb rb arr bl cv q) (hne : cb ≠ rb) (hcb : w.heap.size ≤ cb) (ho : w'.ownsRow w.heap.size 41 6 cv' (q.length + 1) (flatM q ++ r.cells)) (hg : wk.grownBy w' cv.ownBlock) (hr : r.uv = .slice none 0 0) (hu : r.md.us = []) :
    PSt w (w'.setCell ⟨cb, 0, none⟩ cv') cb lb rb arr w'.heap.size cv' (q ++ [r]) := by
  have hP := h.pat.more ho hg hr hu
  have k1 := (OffRow.of h.pat.row).block h.cell (by decide) hg
  have k2 := (OffRow.of h.pat.row).block h.res (by decide) hg
  have k3 := (OffRow.of h.pat.row).block h.lines (by decide) hg
  have hf : FrB (fun k => k = cb) w' (w'.setCell ⟨cb, 0, none⟩ cv') := FrB.set cv' rfl
  have hb : Below w.heap.size w w' := h.bel.grown hg (Nat.le_trans h.pat.hbb h.pat.le) (fun b hb => (h.pat.row.lt b hb).1)
  have hB := hP.fr hf (fun k cs fr e => by
    subst e
    rw [k1]
    exact ⟨by simp, by simp⟩)
  have hsz : (w'.setCell ⟨cb, 0, none⟩ cv').heap.size = w'.heap.size := by simp
  refine ⟨hB, ?_, hf.at_ k2 (fun e => hne e.symm), hf.at_ k3 (fun e => ?_), hb.setCell (p := ⟨cb, 0, none⟩) hcb _⟩
  · rw [heap_setCell_same w' cb 0 _ _ _ k1]; rfl
  · rw [e, k1] at k3
    injection k3 with k3
    injection k3 with _ k3
    exact absurd k3 (by decide)
end Go.Proofs.YtddnfooachibiaaGreatDoor
