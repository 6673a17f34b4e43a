/-
  Two rows of texts in a job's making.
-/
import Derived.Test.YtkplkienbgoofaaGreatDoorViewDone
import Derived.Test.YtkplkienbgoofaaGreatDoorOrdersG
set_option linter.unusedVariables false
set_option linter.unusedSimpArgs false
namespace Go.Proofs.YtkplkienbgoofaaGreatDoor
open Go.RowKit
theorem own_kept {w w' : World} {base n size : Nat} {e : TypeId} {v : Value} {xs : List Value} {row : Option Nat} (h : w.ownsRow base e size v n xs) (hg : w.grownBy w' row) (hne : ∀ b, v.ownBlock = some b → row ≠ some b) : w'.ownsRow base e size v n xs := by
  obtain ⟨h1, h2⟩ := h
  refine ⟨h1, ?_⟩
  rcases h2 with h2 | ⟨g, cap, cur, rfl, hb, hh, r⟩
  · exact .inl h2
  · exact .inr ⟨g, cap, cur, rfl, hb, (hg.block g (lt_of_block hh) (fun e => hne g rfl e.symm)).trans hh, r⟩
theorem stays_alloc {w : World} {o x : Obj} {k : Nat} (h : w.heap[k]? = some x) : (w.alloc o).heap[k]? = some x := ((below_one w o).block k (lt_of_block h)).trans h
structure MidAt (w4 : World) (jb : Nat) (c0 c1 c2 c3 c4 c5 : Value) (X : World) (pv : Value) (xs : List Value) (nv : Value) (ys : List Value) : Prop where
  gb : w4.grownBy X (some jb)
  lt : jb < w4.heap.size
  job : X.heap[jb]? = some (Obj.cells #[c0, c1, c2, c3, c4, c5] 126 (0, 0))
  ps : X.ownsRow w4.heap.size 9 1 pv xs.length xs
  ns : X.ownsRow w4.heap.size 9 1 nv ys.length ys
  ne : ∀ b, pv.ownBlock = some b → nv.ownBlock = some b → False
theorem MidAt.below {w4 X X' : World} {jb : Nat} {c0 c1 c2 c3 c4 c5 pv nv : Value} {xs ys : List Value} (h : MidAt w4 jb c0 c1 c2 c3 c4 c5 X pv xs nv ys) (hb : Below X.heap.size X X') : MidAt w4 jb c0 c1 c2 c3 c4 c5 X' pv xs nv ys :=
  ⟨⟨hb.os.trans h.gb.os, hb.tape.trans h.gb.tape, hb.output.trans h.gb.output, Nat.le_trans h.gb.size hb.size, fun i hi hne => (hb.block i (Nat.lt_of_lt_of_le hi h.gb.size)).trans (h.gb.block i hi hne)⟩,
   h.lt, (hb.block jb (lt_of_block h.job)).trans h.job, own_stay h.ps hb, own_stay h.ns hb, h.ne⟩
theorem MidAt.app1 {w4 X X' : World} {jb : Nat} {c0 c1 c2 c3 c4 c5 pv nv : Value} {xs ys : List Value} (h : MidAt w4 jb c0 c1 c2 c3 c4 c5 X pv xs nv ys) {g cap : Nat} {u : Value} (hown : X'.ownsRow w4.heap.size 9 1 (.slice (some ⟨g, 0, none⟩) (xs.length + 1) cap) (xs.length + 1) (xs ++ [u])) (hg : X.grownBy X' pv.ownBlock) (hl : pv.ownBlock = some g ∨ g = X.heap.size) : MidAt w4 jb c0 c1 c2 c3 c4 c5 X' (.slice (some ⟨g, 0, none⟩) (xs.length + 1) cap) (xs ++ [u]) nv ys := by
  have hrow : ∀ b, pv.ownBlock = some b → w4.heap.size ≤ b := fun b hb => (h.ps.lt b hb).1
  refine ⟨⟨hg.os.trans h.gb.os, hg.tape.trans h.gb.tape, hg.output.trans h.gb.output, Nat.le_trans h.gb.size hg.size, fun i hi hne => (hg.block i (Nat.lt_of_lt_of_le hi h.gb.size) (fun e => by have := hrow i e.symm; omega)).trans (h.gb.block i hi hne)⟩, h.lt, ?_, ?_, own_kept h.ns hg (fun b hb e => h.ne b e hb), fun b hb hn => ?_⟩
  · exact (hg.block jb (lt_of_block h.job) (fun e => by have := hrow jb e.symm; have := h.lt; omega)).trans h.job
  · rw [List.length_append, List.length_singleton]; exact hown
  · have e : g = b := by simpa [Value.ownBlock] using hb
    subst e
    rcases hl with hl | hl
    · exact h.ne g hl hn
    · have := (h.ns.lt g hn).2; omega
theorem MidAt.swap {w4 X : World} {jb : Nat} {c0 c1 c2 c3 c4 c5 pv nv : Value} {xs ys : List Value} (h : MidAt w4 jb c0 c1 c2 c3 c4 c5 X pv xs nv ys) : MidAt w4 jb c0 c1 c2 c3 c4 c5 X nv ys pv xs := ⟨h.gb, h.lt, h.job, h.ns, h.ps, fun b h1 h2 => h.ne b h2 h1⟩
theorem grownBy_set (w : World) (jb n : Nat) (v : Value) : w.grownBy (w.setCell ⟨jb, n, none⟩ v) (some jb) := ⟨rfl, rfl, rfl, by simp, fun k hk hne => Below.heap_setCell w ⟨jb, n, none⟩ _ k (fun e => hne (by rw [e]))⟩
theorem MidAt.set {w4 X : World} {jb : Nat} {c0 c1 c2 c3 c4 c5 pv nv : Value} {xs ys : List Value} (h : MidAt w4 jb c0 c1 c2 c3 c4 c5 X pv xs nv ys) (p q : Value) : MidAt w4 jb c0 c1 c2 p q c5 ((X.setCell ⟨jb, 3, none⟩ p).setCell ⟨jb, 4, none⟩ q) pv xs nv ys := by
  have g1 := grownBy_set X jb 3 p
  have g2 := grownBy_set (X.setCell ⟨jb, 3, none⟩ p) jb 4 q
  have hp : ∀ b, pv.ownBlock = some b → some jb ≠ some b := fun b hb e => by
    injection e with e
    have := (h.ps.lt b hb).1
    have := h.lt
    omega
  have hn : ∀ b, nv.ownBlock = some b → some jb ≠ some b := fun b hb e => by
    injection e with e
    have := (h.ns.lt b hb).1
    have := h.lt
    omega
  refine ⟨⟨g2.os.trans (g1.os.trans h.gb.os), g2.tape.trans (g1.tape.trans h.gb.tape), g2.output.trans (g1.output.trans h.gb.output), Nat.le_trans h.gb.size (Nat.le_trans g1.size g2.size), fun i hi hne => ?_⟩, h.lt, ?_, own_kept (own_kept h.ps g1 hp) g2 hp, own_kept (own_kept h.ns g1 hn) g2 hn, h.ne⟩
  · exact (g2.block i (Nat.lt_of_lt_of_le hi (Nat.le_trans h.gb.size g1.size)) (fun e => hne e)).trans ((g1.block i (Nat.lt_of_lt_of_le hi h.gb.size) (fun e => hne e)).trans (h.gb.block i hi hne))
  · have e1 : (X.setCell ⟨jb, 3, none⟩ p).heap[jb]? = some (Obj.cells #[c0, c1, c2, p, c4, c5] 126 (0, 0)) := by rw [heap_setCell_same X jb 3 _ _ _ h.job]; rfl
    rw [heap_setCell_same _ jb 4 _ _ _ e1]
    rfl
theorem MidAt.cells {w4 X : World} {jb : Nat} {c0 c1 c2 c3 c4 c5 pv nv : Value} {xs ys : List Value} (h : MidAt w4 jb c0 c1 c2 c3 c4 c5 X pv xs nv ys) : X.cell? ⟨jb, 3, none⟩ = some c3 ∧ X.cell? ⟨jb, 4, none⟩ = some c4 := ⟨by simp [World.cell?, h.job], by simp [World.cell?, h.job]⟩
theorem MidAt.set1 {w4 X : World} {jb : Nat} {c0 c1 c2 c3 c4 c5 pv nv : Value} {xs ys : List Value} (h : MidAt w4 jb c0 c1 c2 c3 c4 c5 X pv xs nv ys) (p : Value) : (X.setCell ⟨jb, 3, none⟩ p).heap[jb]? = some (Obj.cells #[c0, c1, c2, p, c4, c5] 126 (0, 0)) := by rw [heap_setCell_same X jb 3 _ _ _ h.job]; rfl
end Go.Proofs.YtkplkienbgoofaaGreatDoor
