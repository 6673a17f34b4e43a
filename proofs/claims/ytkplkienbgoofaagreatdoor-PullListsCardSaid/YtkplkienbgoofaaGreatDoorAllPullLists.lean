/-
  The law PullLists holds for every input: the row and its card, out of the walk; taking of the package-level variables just what the card ties.
-/
import Derived.Deep.RegionHeld3
import Derived.Deep.AppendLies
import Derived.Test.YtkplkienbgoofaaGreatDoorViewDone
import Derived.Test.YtkplkienbgoofaaGreatDoorPathJoin
import Derived.Sort.OwnSorted
import Derived.Test.YtkplkienbgoofaaGreatDoorPathSet
import Derived.Test.YtkplkienbgoofaaGreatDoorViewUnpin
import Derived.Test.YtkplkienbgoofaaGreatDoorTreeScript
import Derived.Outline
import Derived.Test.YtkplkienbgoofaaGreatDoorTreeAllW
import Derived.Test.YtkplkienbgoofaaGreatDoorPathPlain
import Derived.Lib.SmallJoins
import Derived.Handy
import Derived.Deep.MidRow
import Derived.Test.YtkplkienbgoofaaGreatDoorTreeFits
import Derived.Test.YtkplkienbgoofaaGreatDoorPathFns
import Derived.Test.YtkplkienbgoofaaGreatDoorPathCheck
import Derived.Test.YtkplkienbgoofaaGreatDoorShelf
import Derived.WalkKit
import Derived.LaidEql
import Derived.Below
import Derived.WalkLawsBesides
import Derived.WalkSpells
import Derived.Deep.QuietTactic
import Derived.BigQuiet
import Derived.Deep.LoopGhost
import Derived.Lib.Hide
import Derived.Test.YtkplkienbgoofaaGreatDoorCards
import Derived.Test.YtkplkienbgoofaaGreatDoorTie
import Derived.Test.YtkplkienbgoofaaGreatDoorRowKit
import Derived.SevenTiedAt
import Derived.SizedLaws
set_option linter.unusedVariables false
set_option linter.unusedSimpArgs false
namespace Go.Proofs.YtkplkienbgoofaaGreatDoor
variable {P : Program} {ops : Array Oper} {Q : Exit → Act → World → Prop} {md : Region.Mode} {S : World → Prop} {k : Nat}
/-- Whatever order is picked from here on; and S holds behind each operation that is carried out before number k. -/
def wpAnyG (P : Program) (md : Region.Mode) (ops : Array Oper) (Q : Exit → Act → World → Prop) (S : World → Prop) (k : Nat) : Nat → Array Bool → Act → World → Prop
  | 0, listed, a, w => Region.ready md ops listed = [] ∧ Q .normal a w
  | fuel + 1, listed, a, w =>
    (Region.ready md ops listed = [] → Q .normal a w) ∧
    ∀ i ∈ Region.ready md ops listed, wpOp P ops Q i (fun a' w' => ((listed.setIfInBounds i true).getD k true = false → S w') ∧ wpAnyG P md ops Q S k fuel (listed.setIfInBounds i true) a' w') a w
theorem wpAny_of_G : ∀ (fuel : Nat) (listed : Array Bool) (a : Act) (w : World), wpAnyG P md ops Q S k fuel listed a w → wpAny P md ops Q fuel listed a w
  | 0, _, _, _, h => h
  | fuel + 1, _, _, _, h => ⟨h.1, fun i hi => wpOp_mono (fun a' w' h' => wpAny_of_G fuel _ a' w' h'.2) (h.2 i hi)⟩
theorem wpAnyG_first {i : Nat} {oi : Oper} {v : Value} (hi : ops[i]? = some oi) (hsel : ∀ (j : Nat) (o : Oper) cs b, ops[j]? = some o → o.op ≠ .select cs b)
    (hQ : ∀ c a w, Q (.panic c) (a.put oi.dst v) w → Q (.panic c) a w) {ok : Oper} (hk : ops[k]? = some ok) (hw : ∃ e ∈ ok.after, Region.binds md e = true ∧ e.on = i) :
    ∀ (fuel : Nat) (listed : Array Bool) (a : Act) (w : World),
      (∀ j oj, ops[j]? = some oj → j ≠ i → listed.getD j true = false → (∀ e ∈ oj.after, Region.binds md e = true → e.on ≠ i) → oi.apart ops oj = true) →
      i ∈ Region.ready md ops listed → YieldsIf P ops S oi v a → S w → i ≠ k → listed.getD k true = false →
      wpAnyG P md ops Q S k fuel (listed.setIfInBounds i true) (a.put oi.dst v) w → wpAnyG P md ops Q S k (fuel + 1) listed a w := by
  intro fuel
  induction fuel with
  | zero =>
    intro listed a w _ hr hy hS hik hlk H
    refine ⟨fun h => (by rw [h] at hr; cases hr), fun j hj => ?_⟩
    by_cases hji : j = i
    · subst hji; exact hy.wpOp hi hS ⟨fun _ => hS, H⟩
    · have := ready_mono hj hji
      rw [H.1] at this
      cases this
  | succ fuel ih =>
    intro listed a w hfree hr hy hS hik hlk H
    refine ⟨fun h => (by rw [h] at hr; cases hr), fun j hj => ?_⟩
    by_cases hji : j = i
    · subst hji; exact hy.wpOp hi hS ⟨fun _ => hS, H⟩
    · have h1 := H.2 j (ready_mono hj hji)
      obtain ⟨hjun, oj, hoj, hall⟩ := mem_ready.1 hj
      have hnot : ∀ e ∈ oj.after, Region.binds md e = true → e.on ≠ i := fun e he hb heq => by
        have h1 := hall e he hb
        have h0 := (mem_ready.1 hr).1
        rw [heq] at h1
        rcases Nat.lt_or_ge i listed.size with h' | h'
        · simp [h'] at h0 h1; rw [h0] at h1; cases h1
        · simp [Array.getElem?_eq_none h'] at h1
      have hjk : j ≠ k := fun e => by
        subst e
        obtain ⟨e, he, hb, heq⟩ := hw
        have : oj = ok := Option.some.inj (hoj.symm.trans hk)
        exact hnot e (this ▸ he) hb heq
      have h2 := wpOp_putIf hoj (hfree j oj hoj hji hjun hnot) (fun cs b => hsel i oi cs b hi) (fun cs b => hsel j oj cs b hoj) hQ hy h1
      have hfree' : ∀ k ok, ops[k]? = some ok → k ≠ i → (listed.setIfInBounds j true).getD k true = false →
          (∀ e ∈ ok.after, Region.binds md e = true → e.on ≠ i) → oi.apart ops ok = true := fun k ok hk hki hun hno => by
        refine hfree k ok hk hki ?_ hno
        by_cases hjk : j = k
        · subst hjk; exact hjun
        · rw [getD_set_ne true hjk] at hun; exact hun
      have hlk' : (listed.setIfInBounds j true).getD k true = false := by rw [getD_set_ne true hjk]; exact hlk
      refine wpOp_mono (fun a' w' h3 => ?_) h2
      have hS' : S w' := h3.2.1 (by rw [getD_set_ne true hjk, getD_set_ne true hik]; exact hlk)
      refine ⟨fun _ => hS', ih (listed.setIfInBounds j true) a' w' hfree' (ready_mono hr (Ne.symm hji)) h3.1 hS' hik hlk' ?_⟩
      rw [Array.setIfInBounds_comm _ _ hji]
      exact h3.2.2
/-- What yields in whatever world may be taken first at any time. -/
theorem wpAnyG_pure {i : Nat} {oi : Oper} {v : Value} (hi : ops[i]? = some oi) (hsel : ∀ (j : Nat) (o : Oper) cs b, ops[j]? = some o → o.op ≠ .select cs b)
    (hQ : ∀ c a w, Q (.panic c) (a.put oi.dst v) w → Q (.panic c) a w) :
    ∀ (fuel : Nat) (listed : Array Bool) (a : Act) (w : World),
      (∀ j oj, ops[j]? = some oj → j ≠ i → listed.getD j true = false → (∀ e ∈ oj.after, Region.binds md e = true → e.on ≠ i) → oi.apart ops oj = true) →
      i ∈ Region.ready md ops listed → YieldsIf P ops (fun _ => True) oi v a → i ≠ k → (listed.getD k true = false → S w) →
      wpAnyG P md ops Q S k fuel (listed.setIfInBounds i true) (a.put oi.dst v) w → wpAnyG P md ops Q S k (fuel + 1) listed a w := by
  intro fuel
  induction fuel with
  | zero =>
    intro listed a w _ hr hy hik hS H
    refine ⟨fun h => (by rw [h] at hr; cases hr), fun j hj => ?_⟩
    by_cases hji : j = i
    · subst hji; exact hy.wpOp hi trivial ⟨fun h => hS (by rw [getD_set_ne true hik] at h; exact h), H⟩
    · have := ready_mono hj hji
      rw [H.1] at this
      cases this
  | succ fuel ih =>
    intro listed a w hfree hr hy hik hS H
    refine ⟨fun h => (by rw [h] at hr; cases hr), fun j hj => ?_⟩
    by_cases hji : j = i
    · subst hji; exact hy.wpOp hi trivial ⟨fun h => hS (by rw [getD_set_ne true hik] at h; exact h), H⟩
    · have h1 := H.2 j (ready_mono hj hji)
      obtain ⟨hjun, oj, hoj, hall⟩ := mem_ready.1 hj
      have hnot : ∀ e ∈ oj.after, Region.binds md e = true → e.on ≠ i := fun e he hb heq => by
        have h1 := hall e he hb
        have h0 := (mem_ready.1 hr).1
        rw [heq] at h1
        rcases Nat.lt_or_ge i listed.size with h' | h'
        · simp [h'] at h0 h1; rw [h0] at h1; cases h1
        · simp [Array.getElem?_eq_none h'] at h1
      have h2 := wpOp_putIf hoj (hfree j oj hoj hji hjun hnot) (fun cs b => hsel i oi cs b hi) (fun cs b => hsel j oj cs b hoj) hQ hy h1
      have hfree' : ∀ k ok, ops[k]? = some ok → k ≠ i → (listed.setIfInBounds j true).getD k true = false →
          (∀ e ∈ ok.after, Region.binds md e = true → e.on ≠ i) → oi.apart ops ok = true := fun k ok hk hki hun hno => by
        refine hfree k ok hk hki ?_ hno
        by_cases hjk : j = k
        · subst hjk; exact hjun
        · rw [getD_set_ne true hjk] at hun; exact hun
      refine wpOp_mono (fun a' w' h3 => ?_) h2
      have hS' : (listed.setIfInBounds j true).getD k true = false → S w' := fun h => h3.2.1 (by
        rw [Array.setIfInBounds_comm _ _ (Ne.symm hji), getD_set_ne true hik]
        exact h)
      refine ⟨hS', ih (listed.setIfInBounds j true) a' w' hfree' (ready_mono hr (Ne.symm hji)) h3.1 hik hS' ?_⟩
      rw [Array.setIfInBounds_comm _ _ hji]
      exact h3.2.2
theorem wpAnyG_take {i : Nat} {oi ok : Oper} {v : Value} {fuel : Nat} {listed : Array Bool} {a : Act} {w : World} (hi : ops[i]? = some oi) (hk : ops[k]? = some ok)
    (hw : (ok.after.any fun e => Region.binds md e && e.on == i) = true) (hs : Region.noSelect ops = true) (hf : Region.free md ops listed i = true) (hr : (Region.ready md ops listed).contains i = true) (hik : i ≠ k) (hlk : listed.getD k true = false)
    (hQ : ∀ c a w, Q (.panic c) (a.put oi.dst v) w → Q (.panic c) a w) (hy : YieldsIf P ops S oi v a) (hS : S w)
    (h : wpAnyG P md ops Q S k fuel (listed.setIfInBounds i true) (a.put oi.dst v) w) : wpAnyG P md ops Q S k (fuel + 1) listed a w :=
  wpAnyG_first hi (Region.noSelect_spec hs) hQ hk (by
    obtain ⟨n, hn, he⟩ := Array.any_eq_true.1 hw
    simp only [Bool.and_eq_true, beq_iff_eq] at he
    exact ⟨_, Array.getElem_mem hn, he⟩) fuel listed a w (Region.free_spec hi hf) (by simpa using hr) hy hS hik hlk h
theorem wpAnyG_takeP {i : Nat} {oi : Oper} {v : Value} {fuel : Nat} {listed : Array Bool} {a : Act} {w : World} (hi : ops[i]? = some oi)
    (hs : Region.noSelect ops = true) (hf : Region.free md ops listed i = true) (hr : (Region.ready md ops listed).contains i = true) (hik : i ≠ k)
    (hQ : ∀ c a w, Q (.panic c) (a.put oi.dst v) w → Q (.panic c) a w) (hy : YieldsIf P ops (fun _ => True) oi v a) (hS : listed.getD k true = false → S w)
    (h : wpAnyG P md ops Q S k fuel (listed.setIfInBounds i true) (a.put oi.dst v) w) : wpAnyG P md ops Q S k (fuel + 1) listed a w :=
  wpAnyG_pure hi (Region.noSelect_spec hs) hQ fuel listed a w (Region.free_spec hi hf) (by simpa using hr) hy hik hS h
/-- Whichever comes up. -/
theorem wpAnyG_all {rs : List Nat} {fuel : Nat} {listed : Array Bool} {a : Act} {w : World} (hr : Region.ready md ops listed = rs) (hne : rs ≠ [])
    (h : ∀ i ∈ rs, wpOp P ops Q i (fun a' w' => ((listed.setIfInBounds i true).getD k true = false → S w') ∧ wpAnyG P md ops Q S k fuel (listed.setIfInBounds i true) a' w') a w) : wpAnyG P md ops Q S k (fuel + 1) listed a w :=
  ⟨fun h0 => absurd (hr ▸ h0) hne, hr ▸ h⟩
theorem wpAnyG_one {i : Nat} {fuel : Nat} {listed : Array Bool} {a : Act} {w : World} (hr : Region.ready md ops listed = [i])
    (h : wpOp P ops Q i (fun a' w' => ((listed.setIfInBounds i true).getD k true = false → S w') ∧ wpAnyG P md ops Q S k fuel (listed.setIfInBounds i true) a' w') a w) : wpAnyG P md ops Q S k (fuel + 1) listed a w :=
  wpAnyG_all hr (by simp) (fun j hj => by rw [List.mem_singleton.1 hj]; exact h)
theorem wpAnyG_two {i j : Nat} {fuel : Nat} {listed : Array Bool} {a : Act} {w : World} (hr : Region.ready md ops listed = [i, j])
    (h : wpOp P ops Q i (fun a' w' => ((listed.setIfInBounds i true).getD k true = false → S w') ∧ wpAnyG P md ops Q S k fuel (listed.setIfInBounds i true) a' w') a w)
    (h2 : wpOp P ops Q j (fun a' w' => ((listed.setIfInBounds j true).getD k true = false → S w') ∧ wpAnyG P md ops Q S k fuel (listed.setIfInBounds j true) a' w') a w) : wpAnyG P md ops Q S k (fuel + 1) listed a w :=
  wpAnyG_all hr (by simp) (fun m hm => by
    rcases List.mem_cons.1 hm with rfl | hm
    · exact h
    · rw [List.mem_singleton.1 hm]; exact h2)
theorem wpAnyG_done {listed : Array Bool} {a : Act} {w : World} (hr : Region.ready md ops listed = []) (h : Q .normal a w) : ∀ fuel, wpAnyG P md ops Q S k fuel listed a w
  | 0 => ⟨hr, h⟩
  | _ + 1 => ⟨fun _ => h, by rw [hr]; simp⟩
theorem wp_region_G {id : Nat} {a : Act} {w : World} (S : World → Prop) (k n : Nat) (hm : P.follows .mixedOrders = true) (hn : ops.size = n)
    (h : wpAnyG P .any ops Q S k n (Array.replicate n false) a w.drew) : (Code.region id ops true).wp P Q a w := by
  subst hn
  exact wp_region_any hm (wpAny_of_G _ _ _ _ h)
end Go.Proofs.YtkplkienbgoofaaGreatDoor

namespace Go.Proofs.YtkplkienbgoofaaGreatDoor
open Go.RowKit
theorem own_kept {w w' : World} {base n size : Nat} {e : TypeId} {v : Value} {xs : List Value} {row : Option Nat} (h : w.ownsRow base e size v n xs) (hg : w.grownBy w' row) (hne : ∀ b, v.ownBlock = some b → row ≠ some b) : w'.ownsRow base e size v n xs := by
  obtain ⟨h1, h2⟩ := h
  refine ⟨h1, ?_⟩
  rcases h2 with h2 | ⟨g, cap, cur, rfl, hb, hh, r⟩
  · exact .inl h2
  · exact .inr ⟨g, cap, cur, rfl, hb, (hg.block g (lt_of_block hh) (fun e => hne g rfl e.symm)).trans hh, r⟩
theorem stays_alloc {w : World} {o x : Obj} {k : Nat} (h : w.heap[k]? = some x) : (w.alloc o).heap[k]? = some x := ((below_one w o).block k (lt_of_block h)).trans h
structure MidAt (w4 : World) (jb : Nat) (c0 c1 c2 c3 c4 c5 : Value) (X : World) (pv : Value) (xs : List Value) (nv : Value) (ys : List Value) : Prop where
  gb : w4.grownBy X (some jb)
  lt : jb < w4.heap.size
  job : X.heap[jb]? = some (Obj.cells #[c0, c1, c2, c3, c4, c5] 126 (0, 0))
  ps : X.ownsRow w4.heap.size 9 1 pv xs.length xs
  ns : X.ownsRow w4.heap.size 9 1 nv ys.length ys
  ne : ∀ b, pv.ownBlock = some b → nv.ownBlock = some b → False
theorem MidAt.below {w4 X X' : World} {jb : Nat} {c0 c1 c2 c3 c4 c5 pv nv : Value} {xs ys : List Value} (h : MidAt w4 jb c0 c1 c2 c3 c4 c5 X pv xs nv ys) (hb : Below X.heap.size X X') : MidAt w4 jb c0 c1 c2 c3 c4 c5 X' pv xs nv ys :=
  ⟨⟨hb.os.trans h.gb.os, hb.tape.trans h.gb.tape, hb.output.trans h.gb.output, Nat.le_trans h.gb.size hb.size, fun i hi hne => (hb.block i (Nat.lt_of_lt_of_le hi h.gb.size)).trans (h.gb.block i hi hne)⟩,
   h.lt, (hb.block jb (lt_of_block h.job)).trans h.job, own_stay h.ps hb, own_stay h.ns hb, h.ne⟩
theorem MidAt.app1 {w4 X X' : World} {jb : Nat} {c0 c1 c2 c3 c4 c5 pv nv : Value} {xs ys : List Value} (h : MidAt w4 jb c0 c1 c2 c3 c4 c5 X pv xs nv ys) {g cap : Nat} {u : Value} (hown : X'.ownsRow w4.heap.size 9 1 (.slice (some ⟨g, 0, none⟩) (xs.length + 1) cap) (xs.length + 1) (xs ++ [u])) (hg : X.grownBy X' pv.ownBlock) (hl : pv.ownBlock = some g ∨ g = X.heap.size) : MidAt w4 jb c0 c1 c2 c3 c4 c5 X' (.slice (some ⟨g, 0, none⟩) (xs.length + 1) cap) (xs ++ [u]) nv ys := by
  have hrow : ∀ b, pv.ownBlock = some b → w4.heap.size ≤ b := fun b hb => (h.ps.lt b hb).1
  refine ⟨⟨hg.os.trans h.gb.os, hg.tape.trans h.gb.tape, hg.output.trans h.gb.output, Nat.le_trans h.gb.size hg.size, fun i hi hne => (hg.block i (Nat.lt_of_lt_of_le hi h.gb.size) (fun e => by have := hrow i e.symm; omega)).trans (h.gb.block i hi hne)⟩, h.lt, ?_, ?_, own_kept h.ns hg (fun b hb e => h.ne b e hb), fun b hb hn => ?_⟩
  · exact (hg.block jb (lt_of_block h.job) (fun e => by have := hrow jb e.symm; have := h.lt; omega)).trans h.job
  · rw [List.length_append, List.length_singleton]; exact hown
  · have e : g = b := by simpa [Value.ownBlock] using hb
    subst e
    rcases hl with hl | hl
    · exact h.ne g hl hn
    · have := (h.ns.lt g hn).2; omega
theorem MidAt.swap {w4 X : World} {jb : Nat} {c0 c1 c2 c3 c4 c5 pv nv : Value} {xs ys : List Value} (h : MidAt w4 jb c0 c1 c2 c3 c4 c5 X pv xs nv ys) : MidAt w4 jb c0 c1 c2 c3 c4 c5 X nv ys pv xs := ⟨h.gb, h.lt, h.job, h.ns, h.ps, fun b h1 h2 => h.ne b h2 h1⟩
theorem grownBy_set (w : World) (jb n : Nat) (v : Value) : w.grownBy (w.setCell ⟨jb, n, none⟩ v) (some jb) := ⟨rfl, rfl, rfl, by simp, fun k hk hne => Below.heap_setCell w ⟨jb, n, none⟩ _ k (fun e => hne (by rw [e]))⟩
theorem MidAt.set {w4 X : World} {jb : Nat} {c0 c1 c2 c3 c4 c5 pv nv : Value} {xs ys : List Value} (h : MidAt w4 jb c0 c1 c2 c3 c4 c5 X pv xs nv ys) (p q : Value) : MidAt w4 jb c0 c1 c2 p q c5 ((X.setCell ⟨jb, 3, none⟩ p).setCell ⟨jb, 4, none⟩ q) pv xs nv ys := by
  have g1 := grownBy_set X jb 3 p
  have g2 := grownBy_set (X.setCell ⟨jb, 3, none⟩ p) jb 4 q
  have hp : ∀ b, pv.ownBlock = some b → some jb ≠ some b := fun b hb e => by
    injection e with e
    have := (h.ps.lt b hb).1
    have := h.lt
    omega
  have hn : ∀ b, nv.ownBlock = some b → some jb ≠ some b := fun b hb e => by
    injection e with e
    have := (h.ns.lt b hb).1
    have := h.lt
    omega
  refine ⟨⟨g2.os.trans (g1.os.trans h.gb.os), g2.tape.trans (g1.tape.trans h.gb.tape), g2.output.trans (g1.output.trans h.gb.output), Nat.le_trans h.gb.size (Nat.le_trans g1.size g2.size), fun i hi hne => ?_⟩, h.lt, ?_, own_kept (own_kept h.ps g1 hp) g2 hp, own_kept (own_kept h.ns g1 hn) g2 hn, h.ne⟩
  · exact (g2.block i (Nat.lt_of_lt_of_le hi (Nat.le_trans h.gb.size g1.size)) (fun e => hne e)).trans ((g1.block i (Nat.lt_of_lt_of_le hi h.gb.size) (fun e => hne e)).trans (h.gb.block i hi hne))
  · have e1 : (X.setCell ⟨jb, 3, none⟩ p).heap[jb]? = some (Obj.cells #[c0, c1, c2, p, c4, c5] 126 (0, 0)) := by rw [heap_setCell_same X jb 3 _ _ _ h.job]; rfl
    rw [heap_setCell_same _ jb 4 _ _ _ e1]
    rfl
theorem MidAt.cells {w4 X : World} {jb : Nat} {c0 c1 c2 c3 c4 c5 pv nv : Value} {xs ys : List Value} (h : MidAt w4 jb c0 c1 c2 c3 c4 c5 X pv xs nv ys) : X.cell? ⟨jb, 3, none⟩ = some c3 ∧ X.cell? ⟨jb, 4, none⟩ = some c4 := ⟨by simp [World.cell?, h.job], by simp [World.cell?, h.job]⟩
theorem MidAt.set1 {w4 X : World} {jb : Nat} {c0 c1 c2 c3 c4 c5 pv nv : Value} {xs ys : List Value} (h : MidAt w4 jb c0 c1 c2 c3 c4 c5 X pv xs nv ys) (p : Value) : (X.setCell ⟨jb, 3, none⟩ p).heap[jb]? = some (Obj.cells #[c0, c1, c2, p, c4, c5] 126 (0, 0)) := by rw [heap_setCell_same X jb 3 _ _ _ h.job]; rfl
end Go.Proofs.YtkplkienbgoofaaGreatDoor

namespace Go.Proofs.YtkplkienbgoofaaGreatDoor
open Go.RowKit Go.Maps Go.WideMaps Go.WideAt
/-- A job in memory: the store, the version, the module's root, the paths in the tree, the names in the module, whether it is over. -/
structure JobAt (w : World) (base j s : Nat) (v : Int) (rt : ByteArray) (ps ns : List ByteArray) (over : Bool) : Prop where
  hj : base ≤ j
  len : ns.length = ps.length
  rows : ∃ pv nv, w.heap[j]? = some (Obj.cells #[.pointer (some ⟨s, 0, none⟩), .int .i64 v, .string rt, pv, nv, .bool over] 126 (0, 0)) ∧ w.ownsRow base 9 1 pv ps.length (strs ps) ∧ w.ownsRow base 9 1 nv ns.length (strs ns)
theorem JobAt.below {w w' : World} {base j s : Nat} {v : Int} {rt : ByteArray} {ps ns : List ByteArray} {over : Bool} (h : JobAt w base j s v rt ps ns over) (hb : Below w.heap.size w w') : JobAt w' base j s v rt ps ns over :=
  ⟨h.hj, h.len, h.rows.elim fun pv hx => hx.elim fun nv ⟨h1, h2, h3⟩ => ⟨pv, nv, (hb.block j (lt_of_block h1)).trans h1, own_stay h2 hb, own_stay h3 hb⟩⟩
theorem JobAt.frame {w w' : World} {base j s : Nat} {v : Int} {rt : ByteArray} {ps ns : List ByteArray} {over : Bool} (h : JobAt w base j s v rt ps ns over) (hf : SFrame w w') : JobAt w' base j s v rt ps ns over :=
  ⟨h.hj, h.len, h.rows.elim fun pv hx => hx.elim fun nv ⟨h1, h2, h3⟩ => ⟨pv, nv, hf.block j _ _ _ h1 (by decide) (by decide) (by decide), hf.own h2 (by decide) (by decide) (by decide), hf.own h3 (by decide) (by decide) (by decide)⟩⟩
def allP (rt root : ByteArray) : ByteArray := if root.toList.isEmpty then rt else joinB rt root
/-- The files that are wanted. -/
def pullP (now : Nat) (F : List FileS) (rt root : ByteArray) : List ByteArray := (listT now F now (allP rt root)).1 ++ if !root.toList.isEmpty && decide ((readT now F now (allP rt root)).2 = 0) then [allP rt root] else []
def nameP (rt : ByteArray) (p : ByteArray) : ByteArray := (beneathB rt p).1
def modV (nm rt : ByteArray) (wr : Bool) (sl qu : Int) (U : Value) : Value := .agg #[.string nm, .string rt, .bool wr, .int .i64 sl, .int .i64 qu, U]
theorem strs_snoc (l : List ByteArray) (p : ByteArray) : strs (l ++ [p]) = strs l ++ [.string p] := by rw [strs, List.map_append]; rfl
theorem there_now (now : Nat) (L : List Int) : thereV now (L ++ [(now : Int)]) now = 0 := by
  unfold thereV
  rw [if_neg (by omega), if_neg (by omega)]
def NewPost (s g b pm now : Nat) (F : List FileS) (L : List Int) (rt root : ByteArray) (base : Nat) (w : World) (e : Ending) (w' : World) : Prop :=
  (L.length = 64 ∧ e = .returned (.tuple #[.pointer none, .iface 40 (.int .i64 3)]) ∧ Below w.heap.size w w') ∨
  (L.length ≠ 64 ∧ ∃ j, e = .returned (.tuple #[.pointer (some ⟨j, 0, none⟩), .nilIface]) ∧ StoreAt w' base s g b pm now F (L ++ [(now : Int)]) ∧ JobAt w' w.heap.size j s now rt (pullP now F rt root) ((pullP now F rt root).map (nameP rt)) false ∧ Below base w w' ∧ SFrame w w')
set_option maxRecDepth 100000 in
set_option maxHeartbeats 8000000 in
theorem pull_new (s g b pm now : Nat) (F : List FileS) (L : List Int) (nm rt root : ByteArray) (wr : Bool) (sl qu : Int) (us : Value) (w : World) {base : Nat} (hL : L.length ≤ 1000) (hm : mapN F ≤ 80000) (hnow : now ≤ 2097152) (hrt : rt.size ≤ 1000) (hro : root.size ≤ 1000) (hok : root.toList.isEmpty = true ∨ checkB (joinB rt root) = none) (hbase : base ≤ w.heap.size) (hst : StoreAt w base s g b pm now F L) (hg : EnvM w) :
    Calls Tryz.prog 13 #[.pointer (some ⟨s, 0, none⟩), .agg #[.string nm, .string rt, .bool wr, .int .i64 sl, .int .i64 qu, us], .string root] w (NewPost s g b pm now F L rt root base w) := by
  have hb0 := below_one w (.cells #[.string nm, .string rt, .bool wr, .int .i64 sl, .int .i64 qu, us] 36)
  have HST := Lib.hid (hst.below hb0)
  have HB0 := Lib.hid (hb0.mono (Nat.le_refl _))
  have HG0 := Lib.hid (hg.below hb0)
  clear hst hb0 hg
  go_enter Tryz.func13, Tryz.ntmps13
  go_upto_if 25 with fail
  have hnew := heap_alloc_new w (.cells #[.string nm, .string rt, .bool wr, .int .i64 sl, .int .i64 qu, us] 36)
  generalize hW0 : w.alloc (.cells #[.string nm, .string rt, .bool wr, .int .i64 sl, .int .i64 qu, us] 36) = W0 at *
  have y0 : W0.cell? ⟨w.heap.size, 1, none⟩ = some (.string rt) := by simp [World.cell?, hnew]
  go_cut [8] from 24 to 36 (fun av wc => av = .string (allP rt root) ∧ Below W0.heap.size W0 wc)
  case first =>
    cases he : root.toList.isEmpty with
    | true =>
      have HA : Hid (allP rt root = rt) := Lib.hid (by rw [allP, he]; rfl)
      go_wp2_with fail
      go_meet
      case rel => exact ⟨by rw [HA.out], Below.refl _ _⟩
    | false =>
      have HA : Hid (allP rt root = joinB rt root) := Lib.hid (by rw [allP, he]; rfl)
      have HJ : Hid (checkB (joinB rt root) = none) := Lib.hid (hok.elim (fun h => by rw [he] at h; cases h) id)
      clear hok
      go_wp2_with fail
      refine (join_ok rt root W0 (by omega) (by omega) (by omega) HG0.out HJ.out).mono ?_
      rintro e wj ⟨rfl, hbj⟩
      go_wp2_with fail
      go_meet
      case rel => exact ⟨by rw [HA.out], hbj⟩
  case rest =>
  obtain ⟨rfl, hb0⟩ := hcut
  have hals : (allP rt root).size ≤ 3000 := by
    unfold allP
    split
    · omega
    · unfold joinB
      split
      · omega
      · simp only [ByteArray.size_append]
        have : (⟨#[47]⟩ : ByteArray).size = 1 := rfl
        omega
  obtain ⟨al, hal⟩ : ∃ al, al = allP rt root := ⟨_, rfl⟩
  rw [← hal] at hals ⊢
  have HAL := Lib.hid hal
  have hnewc := (hb0.block _ (lt_of_block hnew)).trans hnew
  have HSTC := Lib.hid (HST.out.below hb0)
  have HBC := Lib.hid (below_from HB0.out hb0)
  have hbasec : base ≤ wc.heap.size := Nat.le_trans hbase HBC.out.size
  clear hb0 hnew y0 hW0 hal HST HG0
  go_wp2_with fail
  refine (pin_any s g b pm now F L wc (by omega) hnow hbasec HSTC.out).mono ?_
  rintro e w1 (⟨h64, rfl, hb1⟩ | ⟨h64, rfl, hs1, hb1, hf1⟩)
  · have HB1 := Lib.hid (below_from HBC.out hb1)
    clear hb1
    go_wp2_with fail
    go_ret2
    exact .inl ⟨h64, rfl, HB1.out⟩
  · have hm1 := hf1.block _ _ _ _ hnewc (by decide) (by decide) (by decide)
    have y1 : w1.cell? ⟨w.heap.size, 1, none⟩ = some (.string rt) := by simp [World.cell?, hm1]
    have HS1 := Lib.hid hs1
    have HB1 := Lib.hid (((HBC.out.mono hbase).trans hb1))
    have HF1 := Lib.hid ((SFrame.of_below HBC.out).trans hf1)
    have hwl : w.heap.size < w1.heap.size := lt_of_block hm1
    have H64 := Lib.hid h64
    have Y1 := Lib.hid y1
    have hsz1 := HF1.out.size
    have hlv : listV now F (L ++ [(now : Int)]) now al = ((listT now F now al).1, 0) := by
      rw [listV, if_neg (by simp [there_now]), listT, if_neg (by omega)]
    obtain ⟨d, k, hrv⟩ : ∃ d k, readV now F (L ++ [(now : Int)]) now al = (d, k) := ⟨_, _, rfl⟩
    have hrk : (readT now F now al).2 = k := by
      rw [readV, if_neg (by simp [there_now])] at hrv
      rw [hrv]
    have hwf : (Lit.int .i64 (now : Int)).wf = true := by simp [Lit.wf, IntKind.min, IntKind.max, IntKind.signed, IntKind.bits]; omega
    have HLV := Lib.hid hlv
    have HRV := Lib.hid hrv
    have hbj := below_one w1 (.cells #[.pointer (some ⟨s, 0, none⟩), .int .i64 now, .string rt, .slice none 0 0, .slice none 0 0, .bool false] 126)
    have HS2 := Lib.hid (hs1.below hbj)
    have HBJ := Lib.hid hbj
    have hnj := heap_alloc_new w1 (.cells #[.pointer (some ⟨s, 0, none⟩), .int .i64 now, .string rt, .slice none 0 0, .slice none 0 0, .bool false] 126)
    clear hs1 hb1 hf1 hm1 h64 hnewc hlv hrv hbj
    go_wp2_with fail
    generalize hW2 : w1.alloc (.cells #[.pointer (some ⟨s, 0, none⟩), .int .i64 now, .string rt, .slice none 0 0, .slice none 0 0, .bool false] 126) = W2 at *
    have hsz2 : w1.heap.size < W2.heap.size := by rw [← hW2]; simp
    refine (slist_any s g b pm now F (L ++ [(now : Int)]) now al _ 0 W2 hwf (by omega) (by omega) HS2.out HLV.out).mono ?_
    rintro e w3 ⟨A, c, rfl, hlc, hl9, htx, hol, hb3⟩
    have HOL := Lib.hid hol
    have hW23 := hb3.size
    have HB3 := Lib.hid (HBJ.out.trans (hb3.mono (Nat.le_of_lt hsz2)))
    have HS3 := Lib.hid (HS2.out.below hb3)
    have hnj3 := (hb3.block _ (lt_of_block hnj)).trans hnj
    obtain ⟨l0, hl0⟩ : ∃ l0, l0 = (listT now F now al).1 := ⟨_, rfl⟩
    rw [← hl0] at hlc hl9 HOL ⊢
    have hPP : pullP now F rt root = l0 ++ if (!root.toList.isEmpty && decide (k = 0)) then [al] else [] := by rw [pullP, ← HAL.out, ← hl0, hrk]
    have HPP := Lib.hid hPP
    clear htx hol hb3 hnj hW2 hl0 hrk hPP
    go_wp2_with fail
    refine (sread_any s g b pm now F (L ++ [(now : Int)]) now al d k w3 hwf (by unfold maxLen; omega) (by omega) HS3.out HRV.out).mono ?_
    rintro e w3b ⟨A4, c4, rfl, _, _, hb4⟩
    have HOLB := Lib.hid (own_stay HOL.out hb4)
    have HBB := Lib.hid (below_from HB3.out hb4)
    have hnjb := (hb4.block _ (lt_of_block hnj3)).trans hnj3
    have hszb := hb4.size
    have HNJB := Lib.hid hnjb
    obtain ⟨j0, hj0, hjz0, hjz1, hjz2⟩ := info_parts infoTxt
    clear hb4 hnj3 hnjb
    go_upto_region 13 with fail
    go_cut [71] from 66 to 70 (fun bv wc => bv = .bool (decide (k = 0) && !root.toList.isEmpty) ∧ wc = w3b)
    case first =>
      by_cases hk0 : k = 0
      · have d0 : (k == 0) = true := by simpa using hk0
        have HD : Hid (decide (k = 0) = true) := Lib.hid (decide_eq_true hk0)
        go_wp2_with fail
        go_meet
        case rel => exact ⟨by rw [HD.out]; simp, rfl⟩
      · have d0 : (k == 0) = false := by simpa using hk0
        have HD : Hid (decide (k = 0) = false) := Lib.hid (decide_eq_false hk0)
        go_wp2_with fail
        go_meet
        case rel => exact ⟨by rw [HD.out]; simp, rfl⟩
    case rest =>
    obtain ⟨rfl, rfl⟩ := hcut
    go_upto_if 71 with fail
    go_cut [14] from 71 to 75 (fun lv w4 => ∃ A' c', lv = .slice A' (pullP now F rt root).length c' ∧ w4.ownsRow W2.heap.size 9 1 (.slice A' (pullP now F rt root).length c') (pullP now F rt root).length (strs (pullP now F rt root)) ∧ Below w1.heap.size w1 w4 ∧ w4.heap[w1.heap.size]? = some (.cells #[.pointer (some ⟨s, 0, none⟩), .int .i64 now, .string rt, .slice none 0 0, .slice none 0 0, .bool false] 126 (0, 0)))
    case first =>
      cases hcnd : (decide (k = 0) && !root.toList.isEmpty) with
      | true =>
        have HP1 : Hid (pullP now F rt root = l0 ++ [al]) := Lib.hid (by rw [HPP.out, Bool.and_comm, hcnd]; rfl)
        have HOC := Lib.hid (own_stay HOLB.out (below_one wc (.cells #[.string al] 9)))
        have hjc := (below_one wc (.cells #[.string al] 9)).block _ (lt_of_block HNJB.out)
        have HJC := Lib.hid (hjc.trans HNJB.out)
        have HBC2 := Lib.hid (below_from HBB.out (below_one wc (.cells #[.string al] 9)))
        have hw2c : W2.heap.size ≤ wc.heap.size := Nat.le_trans hW23 hszb
        clear hjc hok
        go_wp2_with (at_builtin; go_loud (refine wpList_append_own _ rfl (.tmp 72) (.tmp 74) 49 rfl W2.heap.size 9 j0 (.string ⟨#[]⟩) 1 16 Tryz.underlying49 hj0 hjz0 hjz1 hjz2 rfl (by decide) (.slice A l0.length c) l0.length (strs l0) (by simp [Act.eval, Act.put]) HOC.out ⟨wc.heap.size, 0, none⟩ 1 1 [.string al] (by simp [Act.eval, Act.put]) rfl (cell_one_new _ _ _) (fun u hu => by (simp at hu; subst hu; rfl)) (by unfold maxLen; omega) (by omega) (by simp; omega) ?_); intro v5 w5 hown5 hg5 _)
        have hown6 : w5.ownsRow W2.heap.size 9 1 v5 (pullP now F rt root).length (strs (pullP now F rt root)) := by
          rw [HP1.out, List.length_append, List.length_singleton]
          have : strs (l0 ++ [al]) = strs l0 ++ [.string al] := by simp [strs]
          rw [this]
          exact hown5
        obtain ⟨A5, c5, rfl, _, _⟩ := own_row hown6
        have hrow : ∀ j, (Value.slice A l0.length c).ownBlock = some j → W2.heap.size ≤ j := fun j hj => (HOC.out.lt j hj).1
        have HO6 := Lib.hid hown6
        have HB6 := Lib.hid (HBC2.out.grown hg5 (by simp; omega) (fun j hj => Nat.le_trans (Nat.le_of_lt hsz2) (hrow j hj)))
        have HJ6 := Lib.hid ((hg5.block w1.heap.size (lt_of_block HJC.out) (fun e => by have := hrow _ e.symm; omega)).trans HJC.out)
        clear hown5 hown6 hg5 hrow
        go_wp2_with fail
        go_meet
        case rel => exact ⟨A5, c5, rfl, HO6.out, HB6.out, HJ6.out⟩
      | false =>
        have HP1 : Hid (pullP now F rt root = l0) := Lib.hid (by rw [HPP.out, Bool.and_comm, hcnd]; simp)
        go_wp2_with fail
        go_meet
        case rel => exact ⟨A, c, by rw [HP1.out], by rw [HP1.out]; exact HOLB.out, HBB.out, HNJB.out⟩
    case rest =>
    obtain ⟨A5, c5, rfl, hol5, hb5, hj5⟩ := hcut
    obtain ⟨w4, rfl⟩ : ∃ W, W = wc := ⟨wc, rfl⟩
    obtain ⟨l, hl⟩ : ∃ l, l = pullP now F rt root := ⟨_, rfl⟩
    rw [← hl] at hol5 ⊢
    have HL := Lib.hid hl
    have hll : l.length ≤ 90001 := by
      rw [hl, HPP.out, List.length_append]
      split <;> simp <;> omega
    obtain ⟨A6, c6, he6, hlc5, htx5⟩ := own_row hol5
    have he6' : A6 = A5 := by injection he6 with h1; exact h1.symm
    subst he6'
    have HTX4 := Lib.hid htx5
    have HOL := Lib.hid hol5
    have HB4 := Lib.hid hb5
    have hjl4 : w1.heap.size < w4.heap.size := lt_of_block hj5
    have hmid0 : MidAt w4 w1.heap.size (.pointer (some ⟨s, 0, none⟩)) (.int .i64 now) (.string rt) (.slice none 0 0) (.slice none 0 0) (.bool false) w4 (.slice none 0 0) [] (.slice none 0 0) [] := ⟨⟨rfl, rfl, rfl, Nat.le_refl _, fun i _ _ => rfl⟩, hjl4, hj5, ⟨rfl, .inl ⟨rfl, rfl⟩⟩, ⟨rfl, .inl ⟨rfl, rfl⟩⟩, fun b h => by cases h⟩
    have HMID0 := Lib.hid hmid0
    have Y1W := Lib.hid (cell_below hb5 Y1.out)
    clear hl hol5 htx5 hb5 hj5 hmid0 he6 HNJB HOLB hok
    go_wp2_with fail
    go_loopw [78] (fun i wr => ∃ (k : Nat) (pv nv : Value), k ≤ l.length ∧ i = .int .i64 k ∧ MidAt w4 w1.heap.size (.pointer (some ⟨s, 0, none⟩)) (.int .i64 now) (.string rt) pv nv (.bool false) wr pv (strs (l.take k)) nv (strs ((l.take k).map (nameP rt)))) (fun i _ => l.length - (intOf i).toNat)
    case atStart => exact ⟨0, _, _, by omega, rfl, HMID0.out⟩
    case round =>
      obtain ⟨k, pv, nv, hk, rfl, hmid⟩ := hrel
      obtain ⟨wk, rfl⟩ : ∃ W, W = wr := ⟨wr, rfl⟩
      have HMID := Lib.hid hmid
      have y1k := hmid.gb.cell_far ⟨w.heap.size, 1, none⟩ (by show w.heap.size < _; omega) (by show some w.heap.size ≠ some w1.heap.size; intro e; injection e with e; omega)
      rw [Y1W.out] at y1k
      by_cases hlt : k < l.length
      · obtain ⟨ad, rfl, hT⟩ := HTX4.out (by omega)
        obtain ⟨gl, capl, hle, hgl1, hgl2⟩ := World.ownsRow.form HOL.out (by omega)
        have had : ad = ⟨gl, 0, none⟩ := by injection hle with h1; injection h1
        subst had
        have x1 := hT k hlt
        rw [Addr.add_lit, Nat.zero_add] at x1
        have hxf := hmid.gb.cell_far ⟨gl, k, none⟩ (World.block_lt_of_cell? w4 _ x1) (by show some gl ≠ some w1.heap.size; intro e; injection e with e; omega)
        rw [x1] at hxf
        replace x1 := hxf
        obtain ⟨p, hp⟩ : ∃ p, p = l[k] := ⟨_, rfl⟩
        have htk : strs (l.take (k + 1)) = strs (l.take k) ++ [.string p] := by rw [List.take_succ_eq_append_getElem hlt, hp, strs_snoc]
        have htn : strs ((l.take (k + 1)).map (nameP rt)) = strs ((l.take k).map (nameP rt)) ++ [.string (nameP rt p)] := by rw [List.take_succ_eq_append_getElem hlt, hp, List.map_append, List.map_cons, List.map_nil, strs_snoc]
        have hxl : (strs (l.take k)).length = k := by simp [strs]; omega
        have hyl : (strs ((l.take k).map (nameP rt))).length = k := by simp [strs]; omega
        rw [← hp] at x1
        have HTK := Lib.hid htk
        have HTN := Lib.hid htn
        clear hT hp hxf hmid htk htn hle
        go_wp2_with fail
        refine (beneath_any rt p wk (by omega)).mono ?_
        rintro e w' ⟨rfl, rfl⟩
        obtain ⟨q, hq⟩ : ∃ q, q = (beneathB rt p).1 := ⟨_, rfl⟩
        obtain ⟨qb, hqb⟩ : ∃ qb, qb = (beneathB rt p).2 := ⟨_, rfl⟩
        rw [← hq, ← hqb]
        have HQ : Hid (nameP rt p = q) := Lib.hid hq.symm
        clear hq hqb
        go_wp2_with fail
        generalize strs (l.take k) = xs at *
        generalize strs ((l.take k).map (nameP rt)) = ys at *
        have hxl1 : xs.length ≤ 90001 := by omega
        have hyl1 : ys.length ≤ 90001 := by omega
        refine wp_region_G (fun w' => w'.cell? ⟨w1.heap.size, 3, none⟩ = some pv ∧ w'.cell? ⟨w1.heap.size, 4, none⟩ = some nv) 18 22 (by kernel_rfl) (by kernel_rfl) ?_
        have HM0 := Lib.hid (HMID.out.below (Below.drew (Below.refl _ _)))
        generalize hX0 : World.drew _ = X0 at *
        have hS0 := HM0.out.cells
        refine wpAnyG_takeP (i := 0) (v := ?_) rfl (by kernel_rfl) (by kernel_rfl) (by kernel_rfl) (by decide) (fun _ _ _ h => h) (Or.inl ⟨by rfl, ?hy⟩) (fun _ => hS0) ?_
        case hy => (intro w' hSw; go_simp; try with_reducible rfl)
        try simp only [Act.put, List.setIfInBounds_toArray, List.set_cons_zero, List.set_cons_succ]
        refine wpAnyG_takeP (i := 2) (v := ?_) rfl (by kernel_rfl) (by kernel_rfl) (by kernel_rfl) (by decide) (fun _ _ _ h => h) (Or.inl ⟨by rfl, ?hy⟩) (fun _ => hS0) ?_
        case hy => (intro w' hSw; go_simp; try with_reducible rfl)
        try simp only [Act.put, List.setIfInBounds_toArray, List.set_cons_zero, List.set_cons_succ]
        refine wpAnyG_takeP (i := 3) (v := ?_) rfl (by kernel_rfl) (by kernel_rfl) (by kernel_rfl) (by decide) (fun _ _ _ h => h) (Or.inl ⟨by rfl, ?hy⟩) (fun _ => hS0) ?_
        case hy => (intro w' hSw; go_simp; try with_reducible rfl)
        try simp only [Act.put, List.setIfInBounds_toArray, List.set_cons_zero, List.set_cons_succ]
        refine wpAnyG_takeP (i := 4) (v := ?_) rfl (by kernel_rfl) (by kernel_rfl) (by kernel_rfl) (by decide) (fun _ _ _ h => h) (Or.inl ⟨by rfl, ?hy⟩) (fun _ => hS0) ?_
        case hy => (intro w' hSw; go_simp; try with_reducible rfl)
        try simp only [Act.put, List.setIfInBounds_toArray, List.set_cons_zero, List.set_cons_succ]
        refine wpAnyG_take (i := 5) (v := ?_) rfl rfl (by kernel_rfl) (by kernel_rfl) (by kernel_rfl) (by kernel_rfl) (by decide) (by kernel_rfl) (fun _ _ _ h => h) (Or.inl ⟨by rfl, ?hy⟩) hS0 ?_
        case hy => (rintro w' ⟨hSw1, hSw2⟩; go_simp; try with_reducible rfl)
        try simp only [Act.put, List.setIfInBounds_toArray, List.set_cons_zero, List.set_cons_succ]
        refine wpAnyG_takeP (i := 6) (v := ?_) rfl (by kernel_rfl) (by kernel_rfl) (by kernel_rfl) (by decide) (fun _ _ _ h => h) (Or.inl ⟨by rfl, ?hy⟩) (fun _ => hS0) ?_
        case hy => (intro w' hSw; go_simp; try with_reducible rfl)
        try simp only [Act.put, List.setIfInBounds_toArray, List.set_cons_zero, List.set_cons_succ]
        refine wpAnyG_takeP (i := 9) (v := ?_) rfl (by kernel_rfl) (by kernel_rfl) (by kernel_rfl) (by decide) (fun _ _ _ h => h) (Or.inl ⟨by rfl, ?hy⟩) (fun _ => hS0) ?_
        case hy => (intro w' hSw; go_simp; try with_reducible rfl)
        try simp only [Act.put, List.setIfInBounds_toArray, List.set_cons_zero, List.set_cons_succ]
        refine wpAnyG_takeP (i := 10) (v := ?_) rfl (by kernel_rfl) (by kernel_rfl) (by kernel_rfl) (by decide) (fun _ _ _ h => h) (Or.inl ⟨by rfl, ?hy⟩) (fun _ => hS0) ?_
        case hy => (intro w' hSw; go_simp; try with_reducible rfl)
        try simp only [Act.put, List.setIfInBounds_toArray, List.set_cons_zero, List.set_cons_succ]
        refine wpAnyG_takeP (i := 11) (v := ?_) rfl (by kernel_rfl) (by kernel_rfl) (by kernel_rfl) (by decide) (fun _ _ _ h => h) (Or.inl ⟨by rfl, ?hy⟩) (fun _ => hS0) ?_
        case hy => (intro w' hSw; go_simp; try with_reducible rfl)
        try simp only [Act.put, List.setIfInBounds_toArray, List.set_cons_zero, List.set_cons_succ]
        refine wpAnyG_take (i := 12) (v := ?_) rfl rfl (by kernel_rfl) (by kernel_rfl) (by kernel_rfl) (by kernel_rfl) (by decide) (by kernel_rfl) (fun _ _ _ h => h) (Or.inl ⟨by rfl, ?hy⟩) hS0 ?_
        case hy => (rintro w' ⟨hSw1, hSw2⟩; go_simp; try with_reducible rfl)
        try simp only [Act.put, List.setIfInBounds_toArray, List.set_cons_zero, List.set_cons_succ]
        refine wpAnyG_takeP (i := 13) (v := ?_) rfl (by kernel_rfl) (by kernel_rfl) (by kernel_rfl) (by decide) (fun _ _ _ h => h) (Or.inl ⟨by rfl, ?hy⟩) (fun _ => hS0) ?_
        case hy => (intro w' hSw; go_simp; try with_reducible rfl)
        try simp only [Act.put, List.setIfInBounds_toArray, List.set_cons_zero, List.set_cons_succ]
        refine wpAnyG_takeP (i := 1) (v := ?_) rfl (by kernel_rfl) (by kernel_rfl) (by kernel_rfl) (by decide) (fun _ _ _ h => h) (Or.inl ⟨by rfl, ?hy⟩) (fun _ => hS0) ?_
        case hy => (intro w' hSw; go_simp; try with_reducible rfl)
        try simp only [Act.put, List.setIfInBounds_toArray, List.set_cons_zero, List.set_cons_succ]
        refine wpAnyG_two (i := 7) (j := 14) (by kernel_rfl) ?_ ?_
        · skip
          refine wpOp_step rfl (fun K' hK => ?_)
          have HK := Lib.hid hK
          clear hK
          rw [if_pos (by rfl)]
          go_simp
          refine HK.out _ _ ⟨fun _ => (HM0.out.below (below_one X0 (.cells #[.string p] 9))).cells, ?_⟩
          clear HK K'
          try simp only [Act.put, List.setIfInBounds_toArray, List.set_cons_zero, List.set_cons_succ]
          have HM1 := Lib.hid (HM0.out.below (below_one X0 (.cells #[.string p] 9)))
          have Np := Lib.hid (heap_alloc_new X0 (.cells #[.string p] 9))
          obtain ⟨bp, hbp⟩ : ∃ bp, bp = X0.heap.size := ⟨_, rfl⟩
          rw [← hbp] at Np ⊢
          generalize hgX1 : X0.alloc (.cells #[.string p] 9) = X1 at *
          refine wpAnyG_two (i := 8) (j := 14) (by kernel_rfl) ?_ ?_
          · skip
            refine wpOp_step rfl (fun K' hK => ?_)
            have HK := Lib.hid hK
            clear hK
            rw [if_pos (by rfl)]
            refine wp_append_lies (w := X1) (.tmp 94) (.tmp 96) 49 rfl w4.heap.size 9 j0 (.string ⟨#[]⟩) 1 16 Tryz.underlying49 hj0 hjz0 hjz1 hjz2 rfl (by decide) pv xs.length xs (by simp [Act.eval]) HM1.out.ps ⟨bp, 0, none⟩ 1 1 [.string p] (by simp [Act.eval]) rfl (World.news_of_block Np.out) (fun u hu => by (simp at hu; subst hu; rfl)) (by omega) (by unfold maxLen; omega) (by omega) HM1.out.gb.size X1.heap.size rfl ?_
            intro gp capp X2 hownp hgrp hlp hltp
            have HM2 := Lib.hid (HM1.out.app1 hownp hgrp hlp)
            refine HK.out _ _ ⟨fun _ => HM2.out.cells, ?_⟩
            clear HK K'
            try simp only [Act.put, List.setIfInBounds_toArray, List.set_cons_zero, List.set_cons_succ]
            refine wpAnyG_one (i := 14) (by kernel_rfl) ?_
            skip
            refine wpOp_step rfl (fun K' hK => ?_)
            have HK := Lib.hid hK
            clear hK
            rw [if_pos (by rfl)]
            go_simp
            refine HK.out _ _ ⟨fun _ => (HM2.out.below (below_one X2 (.cells #[.string q] 9))).cells, ?_⟩
            clear HK K'
            try simp only [Act.put, List.setIfInBounds_toArray, List.set_cons_zero, List.set_cons_succ]
            have HM3 := Lib.hid (HM2.out.below (below_one X2 (.cells #[.string q] 9)))
            have Nq := Lib.hid (heap_alloc_new X2 (.cells #[.string q] 9))
            obtain ⟨bq, hbq⟩ : ∃ bq, bq = X2.heap.size := ⟨_, rfl⟩
            rw [← hbq] at Nq ⊢
            generalize hgX3 : X2.alloc (.cells #[.string q] 9) = X3 at *
            refine wpAnyG_one (i := 15) (by kernel_rfl) ?_
            refine wpOp_step rfl (fun K' hK => ?_)
            have HK := Lib.hid hK
            clear hK
            rw [if_pos (by rfl)]
            refine wp_append_lies (w := X3) (.tmp 101) (.tmp 103) 49 rfl w4.heap.size 9 j0 (.string ⟨#[]⟩) 1 16 Tryz.underlying49 hj0 hjz0 hjz1 hjz2 rfl (by decide) nv ys.length ys (by simp [Act.eval]) HM3.out.ns ⟨bq, 0, none⟩ 1 1 [.string q] (by simp [Act.eval]) rfl (World.news_of_block Nq.out) (fun u hu => by (simp at hu; subst hu; rfl)) (by omega) (by unfold maxLen; omega) (by omega) HM3.out.gb.size X3.heap.size rfl ?_
            intro gq capq X4 hownq hgrq hlq hltq
            have HM4 := Lib.hid ((HM3.out.swap).app1 hownq hgrq hlq).swap
            refine HK.out _ _ ⟨fun _ => HM4.out.cells, ?_⟩
            clear HK K'
            try simp only [Act.put, List.setIfInBounds_toArray, List.set_cons_zero, List.set_cons_succ]
            refine wpAnyG_takeP (i := 16) (v := ?_) rfl (by kernel_rfl) (by kernel_rfl) (by kernel_rfl) (by decide) (fun _ _ _ h => h) (Or.inl ⟨by rfl, ?hy⟩) (fun _ => HM4.out.cells) ?_
            case hy => (intro w' hSw; go_simp; try with_reducible rfl)
            try simp only [Act.put, List.setIfInBounds_toArray, List.set_cons_zero, List.set_cons_succ]
            refine wpAnyG_takeP (i := 17) (v := ?_) rfl (by kernel_rfl) (by kernel_rfl) (by kernel_rfl) (by decide) (fun _ _ _ h => h) (Or.inl ⟨by rfl, ?hy⟩) (fun _ => HM4.out.cells) ?_
            case hy => (intro w' hSw; go_simp; try with_reducible rfl)
            try simp only [Act.put, List.setIfInBounds_toArray, List.set_cons_zero, List.set_cons_succ]
            refine wpAnyG_one (i := 18) (by kernel_rfl) ?_
            have y3 := HM4.out.cells.1
            have f3 := frozen_of_row X4 w1.heap.size 3 _ _ HM4.out.job
            refine wpOp_step rfl (fun K' hK => ?_)
            have HK := Lib.hid hK
            clear hK
            rw [if_pos (by rfl)]
            go_simp
            refine HK.out _ _ ⟨fun h => absurd h (by decide), ?_⟩
            clear HK K' y3 f3
            try simp only [Act.put, List.setIfInBounds_toArray, List.set_cons_zero, List.set_cons_succ]
            refine wpAnyG_takeP (i := 19) (v := ?_) rfl (by kernel_rfl) (by kernel_rfl) (by kernel_rfl) (by decide) (fun _ _ _ h => h) (Or.inl ⟨by rfl, ?hy⟩) (fun h => absurd h (by decide)) ?_
            case hy => (intro w' hSw; go_simp; try with_reducible rfl)
            try simp only [Act.put, List.setIfInBounds_toArray, List.set_cons_zero, List.set_cons_succ]
            refine wpAnyG_takeP (i := 20) (v := ?_) rfl (by kernel_rfl) (by kernel_rfl) (by kernel_rfl) (by decide) (fun _ _ _ h => h) (Or.inl ⟨by rfl, ?hy⟩) (fun h => absurd h (by decide)) ?_
            case hy => (intro w' hSw; go_simp; try with_reducible rfl)
            try simp only [Act.put, List.setIfInBounds_toArray, List.set_cons_zero, List.set_cons_succ]
            refine wpAnyG_one (i := 21) (by kernel_rfl) ?_
            have y4 := HM4.out.cells.2
            have f4 := frozen_of_row X4 w1.heap.size 4 _ _ HM4.out.job
            refine wpOp_step rfl (fun K' hK => ?_)
            have HK := Lib.hid hK
            clear hK
            rw [if_pos (by rfl)]
            go_simp
            refine HK.out _ _ ⟨fun h => absurd h (by decide), ?_⟩
            clear HK K' y4 f4
            try simp only [Act.put, List.setIfInBounds_toArray, List.set_cons_zero, List.set_cons_succ]
            refine wpAnyG_done (by kernel_rfl) ?_ _
            have HMZ := Lib.hid (HM4.out.set (.slice (some ⟨gp, 0, none⟩) (xs.length + 1) capp) (.slice (some ⟨gq, 0, none⟩) (ys.length + 1) capq))
            rw [hxl, hyl] at HMZ
            go_wp2_with fail
            go_roundw
            case rel => exact ⟨k + 1, _, _, by omega, by go_num, by rw [HTK.out, HTN.out, HQ.out]; exact HMZ.out⟩
            case measure => simp [intOf]; omega
          · skip
            refine wpOp_step rfl (fun K' hK => ?_)
            have HK := Lib.hid hK
            clear hK
            rw [if_pos (by rfl)]
            go_simp
            refine HK.out _ _ ⟨fun _ => (HM1.out.below (below_one X1 (.cells #[.string q] 9))).cells, ?_⟩
            clear HK K'
            try simp only [Act.put, List.setIfInBounds_toArray, List.set_cons_zero, List.set_cons_succ]
            have HM2 := Lib.hid (HM1.out.below (below_one X1 (.cells #[.string q] 9)))
            have Nq := Lib.hid (heap_alloc_new X1 (.cells #[.string q] 9))
            obtain ⟨bq, hbq⟩ : ∃ bq, bq = X1.heap.size := ⟨_, rfl⟩
            rw [← hbq] at Nq ⊢
            generalize hgX2 : X1.alloc (.cells #[.string q] 9) = X2 at *
            have Np2 := Lib.hid (show X2.heap[bp]? = some (.cells #[.string p] 9) by rw [← hgX2]; exact stays_alloc Np.out)
            clear Np
            have Np := Np2
            refine wpAnyG_one (i := 8) (by kernel_rfl) ?_
            refine wpOp_step rfl (fun K' hK => ?_)
            have HK := Lib.hid hK
            clear hK
            rw [if_pos (by rfl)]
            refine wp_append_lies (w := X2) (.tmp 94) (.tmp 96) 49 rfl w4.heap.size 9 j0 (.string ⟨#[]⟩) 1 16 Tryz.underlying49 hj0 hjz0 hjz1 hjz2 rfl (by decide) pv xs.length xs (by simp [Act.eval]) HM2.out.ps ⟨bp, 0, none⟩ 1 1 [.string p] (by simp [Act.eval]) rfl (World.news_of_block Np.out) (fun u hu => by (simp at hu; subst hu; rfl)) (by omega) (by unfold maxLen; omega) (by omega) HM2.out.gb.size X2.heap.size rfl ?_
            intro gp capp X3 hownp hgrp hlp hltp
            have HM3 := Lib.hid (HM2.out.app1 hownp hgrp hlp)
            refine HK.out _ _ ⟨fun _ => HM3.out.cells, ?_⟩
            clear HK K'
            try simp only [Act.put, List.setIfInBounds_toArray, List.set_cons_zero, List.set_cons_succ]
            have Nq2 := Lib.hid ((hgrp.block bq (lt_of_block Nq.out) (fun e => by have := (HM1.out.ps.lt bq e.symm).2; omega)).trans Nq.out)
            clear Nq
            have Nq := Nq2
            refine wpAnyG_one (i := 15) (by kernel_rfl) ?_
            refine wpOp_step rfl (fun K' hK => ?_)
            have HK := Lib.hid hK
            clear hK
            rw [if_pos (by rfl)]
            refine wp_append_lies (w := X3) (.tmp 101) (.tmp 103) 49 rfl w4.heap.size 9 j0 (.string ⟨#[]⟩) 1 16 Tryz.underlying49 hj0 hjz0 hjz1 hjz2 rfl (by decide) nv ys.length ys (by simp [Act.eval]) HM3.out.ns ⟨bq, 0, none⟩ 1 1 [.string q] (by simp [Act.eval]) rfl (World.news_of_block Nq.out) (fun u hu => by (simp at hu; subst hu; rfl)) (by omega) (by unfold maxLen; omega) (by omega) HM3.out.gb.size X3.heap.size rfl ?_
            intro gq capq X4 hownq hgrq hlq hltq
            have HM4 := Lib.hid ((HM3.out.swap).app1 hownq hgrq hlq).swap
            refine HK.out _ _ ⟨fun _ => HM4.out.cells, ?_⟩
            clear HK K'
            try simp only [Act.put, List.setIfInBounds_toArray, List.set_cons_zero, List.set_cons_succ]
            refine wpAnyG_takeP (i := 16) (v := ?_) rfl (by kernel_rfl) (by kernel_rfl) (by kernel_rfl) (by decide) (fun _ _ _ h => h) (Or.inl ⟨by rfl, ?hy⟩) (fun _ => HM4.out.cells) ?_
            case hy => (intro w' hSw; go_simp; try with_reducible rfl)
            try simp only [Act.put, List.setIfInBounds_toArray, List.set_cons_zero, List.set_cons_succ]
            refine wpAnyG_takeP (i := 17) (v := ?_) rfl (by kernel_rfl) (by kernel_rfl) (by kernel_rfl) (by decide) (fun _ _ _ h => h) (Or.inl ⟨by rfl, ?hy⟩) (fun _ => HM4.out.cells) ?_
            case hy => (intro w' hSw; go_simp; try with_reducible rfl)
            try simp only [Act.put, List.setIfInBounds_toArray, List.set_cons_zero, List.set_cons_succ]
            refine wpAnyG_one (i := 18) (by kernel_rfl) ?_
            have y3 := HM4.out.cells.1
            have f3 := frozen_of_row X4 w1.heap.size 3 _ _ HM4.out.job
            refine wpOp_step rfl (fun K' hK => ?_)
            have HK := Lib.hid hK
            clear hK
            rw [if_pos (by rfl)]
            go_simp
            refine HK.out _ _ ⟨fun h => absurd h (by decide), ?_⟩
            clear HK K' y3 f3
            try simp only [Act.put, List.setIfInBounds_toArray, List.set_cons_zero, List.set_cons_succ]
            refine wpAnyG_takeP (i := 19) (v := ?_) rfl (by kernel_rfl) (by kernel_rfl) (by kernel_rfl) (by decide) (fun _ _ _ h => h) (Or.inl ⟨by rfl, ?hy⟩) (fun h => absurd h (by decide)) ?_
            case hy => (intro w' hSw; go_simp; try with_reducible rfl)
            try simp only [Act.put, List.setIfInBounds_toArray, List.set_cons_zero, List.set_cons_succ]
            refine wpAnyG_takeP (i := 20) (v := ?_) rfl (by kernel_rfl) (by kernel_rfl) (by kernel_rfl) (by decide) (fun _ _ _ h => h) (Or.inl ⟨by rfl, ?hy⟩) (fun h => absurd h (by decide)) ?_
            case hy => (intro w' hSw; go_simp; try with_reducible rfl)
            try simp only [Act.put, List.setIfInBounds_toArray, List.set_cons_zero, List.set_cons_succ]
            refine wpAnyG_one (i := 21) (by kernel_rfl) ?_
            have y4 := HM4.out.cells.2
            have f4 := frozen_of_row X4 w1.heap.size 4 _ _ HM4.out.job
            refine wpOp_step rfl (fun K' hK => ?_)
            have HK := Lib.hid hK
            clear hK
            rw [if_pos (by rfl)]
            go_simp
            refine HK.out _ _ ⟨fun h => absurd h (by decide), ?_⟩
            clear HK K' y4 f4
            try simp only [Act.put, List.setIfInBounds_toArray, List.set_cons_zero, List.set_cons_succ]
            refine wpAnyG_done (by kernel_rfl) ?_ _
            have HMZ := Lib.hid (HM4.out.set (.slice (some ⟨gp, 0, none⟩) (xs.length + 1) capp) (.slice (some ⟨gq, 0, none⟩) (ys.length + 1) capq))
            rw [hxl, hyl] at HMZ
            go_wp2_with fail
            go_roundw
            case rel => exact ⟨k + 1, _, _, by omega, by go_num, by rw [HTK.out, HTN.out, HQ.out]; exact HMZ.out⟩
            case measure => simp [intOf]; omega
        · skip
          refine wpOp_step rfl (fun K' hK => ?_)
          have HK := Lib.hid hK
          clear hK
          rw [if_pos (by rfl)]
          go_simp
          refine HK.out _ _ ⟨fun _ => (HM0.out.below (below_one X0 (.cells #[.string q] 9))).cells, ?_⟩
          clear HK K'
          try simp only [Act.put, List.setIfInBounds_toArray, List.set_cons_zero, List.set_cons_succ]
          have HM1 := Lib.hid (HM0.out.below (below_one X0 (.cells #[.string q] 9)))
          have Nq := Lib.hid (heap_alloc_new X0 (.cells #[.string q] 9))
          obtain ⟨bq, hbq⟩ : ∃ bq, bq = X0.heap.size := ⟨_, rfl⟩
          rw [← hbq] at Nq ⊢
          generalize hgX1 : X0.alloc (.cells #[.string q] 9) = X1 at *
          refine wpAnyG_one (i := 7) (by kernel_rfl) ?_
          refine wpOp_step rfl (fun K' hK => ?_)
          have HK := Lib.hid hK
          clear hK
          rw [if_pos (by rfl)]
          go_simp
          refine HK.out _ _ ⟨fun _ => (HM1.out.below (below_one X1 (.cells #[.string p] 9))).cells, ?_⟩
          clear HK K'
          try simp only [Act.put, List.setIfInBounds_toArray, List.set_cons_zero, List.set_cons_succ]
          have HM2 := Lib.hid (HM1.out.below (below_one X1 (.cells #[.string p] 9)))
          have Np := Lib.hid (heap_alloc_new X1 (.cells #[.string p] 9))
          obtain ⟨bp, hbp⟩ : ∃ bp, bp = X1.heap.size := ⟨_, rfl⟩
          rw [← hbp] at Np ⊢
          generalize hgX2 : X1.alloc (.cells #[.string p] 9) = X2 at *
          have Nq2 := Lib.hid (show X2.heap[bq]? = some (.cells #[.string q] 9) by rw [← hgX2]; exact stays_alloc Nq.out)
          clear Nq
          have Nq := Nq2
          refine wpAnyG_one (i := 8) (by kernel_rfl) ?_
          refine wpOp_step rfl (fun K' hK => ?_)
          have HK := Lib.hid hK
          clear hK
          rw [if_pos (by rfl)]
          refine wp_append_lies (w := X2) (.tmp 94) (.tmp 96) 49 rfl w4.heap.size 9 j0 (.string ⟨#[]⟩) 1 16 Tryz.underlying49 hj0 hjz0 hjz1 hjz2 rfl (by decide) pv xs.length xs (by simp [Act.eval]) HM2.out.ps ⟨bp, 0, none⟩ 1 1 [.string p] (by simp [Act.eval]) rfl (World.news_of_block Np.out) (fun u hu => by (simp at hu; subst hu; rfl)) (by omega) (by unfold maxLen; omega) (by omega) HM2.out.gb.size X2.heap.size rfl ?_
          intro gp capp X3 hownp hgrp hlp hltp
          have HM3 := Lib.hid (HM2.out.app1 hownp hgrp hlp)
          refine HK.out _ _ ⟨fun _ => HM3.out.cells, ?_⟩
          clear HK K'
          try simp only [Act.put, List.setIfInBounds_toArray, List.set_cons_zero, List.set_cons_succ]
          have Nq3 := Lib.hid ((hgrp.block bq (lt_of_block Nq.out) (fun e => by have := (HM0.out.ps.lt bq e.symm).2; omega)).trans Nq.out)
          clear Nq
          have Nq := Nq3
          refine wpAnyG_one (i := 15) (by kernel_rfl) ?_
          refine wpOp_step rfl (fun K' hK => ?_)
          have HK := Lib.hid hK
          clear hK
          rw [if_pos (by rfl)]
          refine wp_append_lies (w := X3) (.tmp 101) (.tmp 103) 49 rfl w4.heap.size 9 j0 (.string ⟨#[]⟩) 1 16 Tryz.underlying49 hj0 hjz0 hjz1 hjz2 rfl (by decide) nv ys.length ys (by simp [Act.eval]) HM3.out.ns ⟨bq, 0, none⟩ 1 1 [.string q] (by simp [Act.eval]) rfl (World.news_of_block Nq.out) (fun u hu => by (simp at hu; subst hu; rfl)) (by omega) (by unfold maxLen; omega) (by omega) HM3.out.gb.size X3.heap.size rfl ?_
          intro gq capq X4 hownq hgrq hlq hltq
          have HM4 := Lib.hid ((HM3.out.swap).app1 hownq hgrq hlq).swap
          refine HK.out _ _ ⟨fun _ => HM4.out.cells, ?_⟩
          clear HK K'
          try simp only [Act.put, List.setIfInBounds_toArray, List.set_cons_zero, List.set_cons_succ]
          refine wpAnyG_takeP (i := 16) (v := ?_) rfl (by kernel_rfl) (by kernel_rfl) (by kernel_rfl) (by decide) (fun _ _ _ h => h) (Or.inl ⟨by rfl, ?hy⟩) (fun _ => HM4.out.cells) ?_
          case hy => (intro w' hSw; go_simp; try with_reducible rfl)
          try simp only [Act.put, List.setIfInBounds_toArray, List.set_cons_zero, List.set_cons_succ]
          refine wpAnyG_takeP (i := 17) (v := ?_) rfl (by kernel_rfl) (by kernel_rfl) (by kernel_rfl) (by decide) (fun _ _ _ h => h) (Or.inl ⟨by rfl, ?hy⟩) (fun _ => HM4.out.cells) ?_
          case hy => (intro w' hSw; go_simp; try with_reducible rfl)
          try simp only [Act.put, List.setIfInBounds_toArray, List.set_cons_zero, List.set_cons_succ]
          refine wpAnyG_one (i := 18) (by kernel_rfl) ?_
          have y3 := HM4.out.cells.1
          have f3 := frozen_of_row X4 w1.heap.size 3 _ _ HM4.out.job
          refine wpOp_step rfl (fun K' hK => ?_)
          have HK := Lib.hid hK
          clear hK
          rw [if_pos (by rfl)]
          go_simp
          refine HK.out _ _ ⟨fun h => absurd h (by decide), ?_⟩
          clear HK K' y3 f3
          try simp only [Act.put, List.setIfInBounds_toArray, List.set_cons_zero, List.set_cons_succ]
          refine wpAnyG_takeP (i := 19) (v := ?_) rfl (by kernel_rfl) (by kernel_rfl) (by kernel_rfl) (by decide) (fun _ _ _ h => h) (Or.inl ⟨by rfl, ?hy⟩) (fun h => absurd h (by decide)) ?_
          case hy => (intro w' hSw; go_simp; try with_reducible rfl)
          try simp only [Act.put, List.setIfInBounds_toArray, List.set_cons_zero, List.set_cons_succ]
          refine wpAnyG_takeP (i := 20) (v := ?_) rfl (by kernel_rfl) (by kernel_rfl) (by kernel_rfl) (by decide) (fun _ _ _ h => h) (Or.inl ⟨by rfl, ?hy⟩) (fun h => absurd h (by decide)) ?_
          case hy => (intro w' hSw; go_simp; try with_reducible rfl)
          try simp only [Act.put, List.setIfInBounds_toArray, List.set_cons_zero, List.set_cons_succ]
          refine wpAnyG_one (i := 21) (by kernel_rfl) ?_
          have y4 := HM4.out.cells.2
          have f4 := frozen_of_row X4 w1.heap.size 4 _ _ HM4.out.job
          refine wpOp_step rfl (fun K' hK => ?_)
          have HK := Lib.hid hK
          clear hK
          rw [if_pos (by rfl)]
          go_simp
          refine HK.out _ _ ⟨fun h => absurd h (by decide), ?_⟩
          clear HK K' y4 f4
          try simp only [Act.put, List.setIfInBounds_toArray, List.set_cons_zero, List.set_cons_succ]
          refine wpAnyG_done (by kernel_rfl) ?_ _
          have HMZ := Lib.hid (HM4.out.set (.slice (some ⟨gp, 0, none⟩) (xs.length + 1) capp) (.slice (some ⟨gq, 0, none⟩) (ys.length + 1) capq))
          rw [hxl, hyl] at HMZ
          go_wp2_with fail
          go_roundw
          case rel => exact ⟨k + 1, _, _, by omega, by go_num, by rw [HTK.out, HTN.out, HQ.out]; exact HMZ.out⟩
          case measure => simp [intOf]; omega
      · obtain rfl : k = l.length := by omega
        have hx : l.take l.length = l := List.take_length
        rw [hx] at HMID
        have HBE : Hid (Below w1.heap.size w1 wk) := Lib.hid (HB4.out.grown HMID.out.gb (Nat.le_of_lt hjl4) (fun j hj => by injection hj with hj; omega))
        clear hmid y1k hx
        go_wp2_with fail
        go_ret2
        refine .inr ⟨H64.out, w1.heap.size, rfl, HS1.out.below HBE.out, ⟨Nat.le_of_lt hwl, by rw [List.length_map], ?_⟩, HB1.out.trans (HBE.out.mono (Nat.le_trans hbase hsz1)), HF1.out.trans (SFrame.of_below HBE.out)⟩
        refine ⟨pv, nv, HMID.out.job, ?_, ?_⟩
        · rw [← HL.out]
          have := own_mono HMID.out.ps (Nat.le_trans hsz1 (Nat.le_of_lt hjl4))
          rw [show (strs l).length = l.length by simp [strs]] at this
          exact this
        · rw [← HL.out]
          have := own_mono HMID.out.ns (Nat.le_trans hsz1 (Nat.le_of_lt hjl4))
          rw [show (strs (l.map (nameP rt))).length = (l.map (nameP rt)).length by simp [strs]] at this
          exact this
end Go.Proofs.YtkplkienbgoofaaGreatDoor

namespace Go.Proofs.YtkplkienbgoofaaGreatDoor
open Go.RowKit
theorem wpList_append_clone {P : Program} {w3 : World} {ops : Array Oper} {rest : List Oper} {o : Oper} {a : Act} {Q : Exit → Act → World → Prop} (hgd : o.guard = none) (s x : Operand) (t : TypeId)
    (ho : o.op = .call { callee := .builtin .append, args := #[s, x], argTypes := #[t, t] })
    (base : Nat) (e : TypeId) (i : TypeInfo) (z : Value) (size bytes : Nat) (ht : P.underlying t = some (.slice e)) (hi : P.info? e = some i) (hz : i.zero = some z)
    (hsize : i.size = size) (hby : i.bytes = bytes) (hzs : z.cells.size = size) (hsz : 0 < size)
    (v : Value) (n : Nat) (xs : List Value) (hs : a.eval s = .slice (some ⟨w3.heap.size, 0, none⟩) 0 0) (hx : a.eval x = v) (hown : w3.ownsRow base e size v n xs) (h1 : ∀ u ∈ xs, u.oneCell' = true)
    (h63 : n ≤ maxLen) (hbytes : n * bytes ≤ 140737488355328)
    (h : ∀ v' w', w'.ownsRow w3.heap.size e size v' n xs → Below w3.heap.size w3 w' → wpList P ops Q rest (a.put o.dst v') w') : wpList P ops Q (o :: rest) a (w3.alloc (.cells #[] e)) := by
  have hown0 : (w3.alloc (.cells #[] e)).ownsRow w3.heap.size e size (.slice (some ⟨w3.heap.size, 0, none⟩) 0 0) 0 [] := World.ownsRow_lit w3 #[] 0 (Nat.le_refl _) (by simp) (by simp)
  have hb1 := below_one w3 (.cells #[] e)
  by_cases hn : 0 < n
  · obtain ⟨g, cap, rfl, _, hg⟩ := hown.form hn
    refine wpList_append_own _ hgd s x t ho w3.heap.size e i z size bytes ht hi hz hsize hby hzs hsz (.slice (some ⟨w3.heap.size, 0, none⟩) 0 0) 0 [] hs hown0 ⟨g, 0, none⟩ n cap xs hx hown.1 (fun j u hj => cell_below hb1 (hown.cells rfl j u hj)) h1 (by omega) (by simpa using hbytes) hb1.size ?_
    intro v' w' ho' hg' _
    refine h v' w' (by simpa using ho') (hb1.grown hg' hb1.size (fun k hk => ?_))
    have : w3.heap.size = k := by simpa [Value.ownBlock] using hk
    omega
  · have h0 : n = 0 := by omega
    subst h0
    have hxs : xs = [] := List.length_eq_zero_iff.1 (by simpa using hown.1)
    subst hxs
    obtain ⟨A, c, rfl⟩ : ∃ A c, v = .slice A 0 c := by
      rcases hown.2 with ⟨rfl, _⟩ | ⟨g, cap, cur, rfl, _⟩
      · exact ⟨_, _, rfl⟩
      · exact ⟨_, _, rfl⟩
    exact wpList_append_nothing hgd s x t ho e i ht hi (some ⟨w3.heap.size, 0, none⟩) 0 0 hs (Nat.le_refl _) A c hx (h _ _ hown0 hb1)
end Go.Proofs.YtkplkienbgoofaaGreatDoor

namespace Go.Proofs.YtkplkienbgoofaaGreatDoor
open Go.RowKit Go.Maps Go.WideMaps Go.WideAt
/-- A store stays where a job's block is written. -/
theorem StoreAt.other {w w' : World} {base s g b pm now : Nat} {F : List FileS} {L : List Int} (h : StoreAt w base s g b pm now F L) {j : Nat} {cs : Array Value} {fr : Nat × Nat} (hj : w.heap[j]? = some (Obj.cells cs 126 fr)) (hgr : w.grownBy w' (some j)) : StoreAt w' base s g b pm now F L := by
  have hother : ∀ (k : Nat) cs2 t2 fr2, w.heap[k]? = some (Obj.cells cs2 t2 fr2) → t2 ≠ 126 → some k ≠ some j := fun k cs2 t2 fr2 hk ht e => by
    injection e with e
    rw [e, hj] at hk
    injection hk with hk
    injection hk with _ hk
    exact ht hk.symm
  have hmap : ∀ {k : Nat}, (∀ cs t fr, w.heap[k]? ≠ some (Obj.cells cs t fr)) → some k ≠ some j := fun hk e => by
    injection e with e
    exact hk _ _ _ (e ▸ hj)
  have hown : ∀ {e : TypeId} {size n' : Nat} {v : Value} {xs : List Value}, w.ownsRow base e size v n' xs → e ≠ 126 → v.ownBlock ≠ some j := fun {e size n' v xs} ho he e2 => by
    rcases ho.2 with ⟨rfl, _⟩ | ⟨k, cap, cur, rfl, _, hh, _⟩
    · simp [Value.ownBlock] at e2
    · have : k = j := by simpa [Value.ownBlock] using e2
      exact hother k _ _ _ hh he (by rw [this])
  refine ⟨(hgr.block s (lt_of_block h.cell) (hother s _ _ _ h.cell (by decide))).trans h.cell, h.hs, h.hp, h.ne, ?_, h.pins.elim fun m ⟨h1, h2⟩ => ⟨m, h1.grown hgr (hmap h.pmNo), h2⟩⟩
  refine ⟨(hgr.block g (lt_of_block h.tree.cell) (hother g _ _ _ h.tree.cell (by decide))).trans h.tree.cell, h.tree.hg, h.tree.hb, h.tree.map.grown hgr (hmap h.tree.noCells), h.tree.once, h.tree.apart, fun f hf => ?_⟩
  have hfa := h.tree.files f hf
  refine ⟨hfa.1.kept hgr (.inr (fun e => ?_)), hfa.2.1, fun r hr => ⟨(hfa.2.2.1 r hr).1.kept hgr (.inr (hown (hfa.2.2.1 r hr).1 (by decide))), (hfa.2.2.1 r hr).2⟩, hfa.2.2.2⟩
  obtain ⟨cur, hc⟩ := hfa.1.blk j e
  exact hother j _ _ _ hc (by decide) rfl
theorem grown_set (w : World) (j n : Nat) (v : Value) : w.grownBy (w.setCell ⟨j, n, none⟩ v) (some j) := ⟨rfl, rfl, rfl, by simp, fun k hk hne => Below.heap_setCell w ⟨j, n, none⟩ _ k (fun e => hne (by rw [e]))⟩
/-- Another job stays. -/
theorem JobAt.other {w w' : World} {bj j s : Nat} {v : Int} {rt : ByteArray} {ps ns : List ByteArray} {over : Bool} (h : JobAt w bj j s v rt ps ns over) {k : Nat} {cs : Array Value} {fr : Nat × Nat} (hk : w.heap[k]? = some (Obj.cells cs 126 fr)) (hne : k ≠ j) (hgr : w.grownBy w' (some k)) : JobAt w' bj j s v rt ps ns over := by
  obtain ⟨pv, nv, h1, h2, h3⟩ := h.rows
  have hs : ∀ {u : Value} {xs : List Value} {n : Nat}, w.ownsRow bj 9 1 u n xs → ∀ b, u.ownBlock = some b → some k ≠ some b := fun {u xs n} ho b hb e => by
    injection e with e
    rcases ho.2 with ⟨rfl, _⟩ | ⟨m, cap, cur, rfl, _, hh, _⟩
    · simp [Value.ownBlock] at hb
    · have hm : m = b := by simpa [Value.ownBlock] using hb
      rw [hm, ← e, hk] at hh
      injection hh with hh
      injection hh with _ hh
      exact absurd hh (by decide)
  exact ⟨h.hj, h.len, pv, nv, (hgr.block j (lt_of_block h1) (fun e => by injection e with e; exact hne e.symm)).trans h1, own_kept h2 hgr (hs h2), own_kept h3 hgr (hs h3)⟩
set_option maxRecDepth 100000 in
set_option maxHeartbeats 2000000 in
theorem names_any (j s : Nat) (v : Int) (rt : ByteArray) (ps ns : List ByteArray) (over : Bool) (w : World) {bj : Nat} (hn : ns.length ≤ 100000) (hj : JobAt w bj j s v rt ps ns over) :
    Calls Tryz.prog 22 #[.pointer (some ⟨j, 0, none⟩)] w fun e w' => ∃ A c, e = .returned (.slice A ns.length c) ∧ ns.length ≤ c ∧ w'.ownsRow w.heap.size 9 1 (.slice A ns.length c) ns.length (strs ns) ∧ TextRow w' A ns ∧ Below w.heap.size w w' := by
  obtain ⟨pv, nv, hb, hp, hnn⟩ := hj.rows
  have y4 : w.cell? ⟨j, 4, none⟩ = some nv := by simp [World.cell?, hb]
  have y4a := cell_below (below_one w (.cells #[] 9)) y4
  obtain ⟨A, c, rfl, hc, ht⟩ := own_row hnn
  have HNN := Lib.hid hnn
  have hone : Hid (∀ u ∈ strs ns, u.oneCell' = true) := Lib.hid (fun u hu => by
    obtain ⟨x, _, rfl⟩ := List.mem_map.1 hu
    rfl)
  obtain ⟨j0, hj0, hjz0, hjz1, hjz2⟩ := info_parts infoTxt
  clear hb hp hnn hj ht y4
  go_enter Tryz.func22, Tryz.ntmps22
  go_wp2_with (at_builtin; go_loud (refine wpList_append_clone rfl (.tmp 3) (.tmp 7) 49 rfl bj 9 j0 (.string ⟨#[]⟩) 1 16 Tryz.underlying49 hj0 hjz0 hjz1 hjz2 rfl (by decide) (.slice A ns.length c) ns.length (strs ns) (by simp [Act.eval, Act.put]) (by simp [Act.eval, Act.put]) HNN.out hone.out (by unfold maxLen; omega) (by omega) ?_); intro v2 w2 hown2 hb2)
  obtain ⟨A2, c2, rfl, hc2, ht2⟩ := own_row hown2
  go_ret
  exact ⟨A2, c2, rfl, hc2, hown2, ht2, hb2⟩
set_option maxRecDepth 100000 in
set_option maxHeartbeats 2000000 in
theorem again_any (j s g b pm now : Nat) (v i : Int) (rt : ByteArray) (ps ns : List ByteArray) (F : List FileS) (L : List Int) (w : World) {base bj : Nat} (d : List Int) (k : Int) (n : Nat) (hn : n < ps.length) (hi : i = (n : Int)) (hpl : ps.length ≤ 100000) (hpz : ps[n].size ≤ maxLen) (hv : (Lit.int .i64 v).wf = true) (hm : mapN F ≤ 90000) (hj : JobAt w bj j s v rt ps ns false) (hst : StoreAt w base s g b pm now F L) (hr : readV now F L v ps[n] = (d, k)) :
    Calls Tryz.prog 33 #[.pointer (some ⟨j, 0, none⟩), .int .i64 i] w fun e w' => ∃ A c, e = .returned (.tuple #[.slice A d.length c, .int .i64 k]) ∧ (∀ W, Below w'.heap.size w' W → (convert 59 9 (.slice A d.length c)).run Tryz.prog W = .ok (.string (strOfNums d)) W) ∧ Below w.heap.size w w' := by
  obtain ⟨pv, nv, hb, hp, hnn⟩ := hj.rows
  have y0 : w.cell? ⟨j, 0, none⟩ = some (.pointer (some ⟨s, 0, none⟩)) := by simp [World.cell?, hb]
  have y1 : w.cell? ⟨j, 1, none⟩ = some (.int .i64 v) := by simp [World.cell?, hb]
  have y3 : w.cell? ⟨j, 3, none⟩ = some pv := by simp [World.cell?, hb]
  have y5 : w.cell? ⟨j, 5, none⟩ = some (.bool false) := by simp [World.cell?, hb]
  obtain ⟨A, c, rfl, hc, ht⟩ := own_row hp
  obtain ⟨ad, rfl, hT⟩ := ht (by omega)
  have x1 := hT n hn
  have hbd : Below w.heap.size w w.drew := Below.drew (Below.refl _ _)
  have HRD := Lib.hid (sread_any s g b pm now F L v ps[n] d k w.drew hv hpz hm (hst.below hbd) hr)
  have HBD := Lib.hid hbd
  subst hi
  generalize ps[n] = p at *
  have d1 : decide ((n : Int) < 0) = false := by simp
  have d2 : decide ((ps.length : Int) ≤ (n : Int)) = false := by simp; omega
  have x1a := cell_below hbd x1
  have y0a := cell_below hbd y0
  have y1a := cell_below hbd y1
  have y3a := cell_below hbd y3
  have h01 : (0 : Int) ≤ (n : Int) := by omega
  have h02 : (n : Int) < (ps.length : Int) := by omega
  clear hb hp hnn hj ht hT hst hr hbd
  go_enter Tryz.func33, Tryz.ntmps33
  go_wp2_with fail
  go_region_held3 (fun w' => w'.cell? ⟨j, 0, none⟩ = some (.pointer (some ⟨s, 0, none⟩)) ∧ w'.cell? ⟨j, 1, none⟩ = some (.int .i64 v) ∧ w'.cell? ⟨j, 3, none⟩ = some (.slice (some ad) ps.length c) ∧ w'.cell? (ad.add n) = some (.string p))
    (first
      | exact sx
      | (go_split_ands
         refine ⟨?_, ?_, ?_, ?_⟩ <;> first | assumption | go_keep))
    (first
     | (go_at_call 28
        refine HRD.out.mono ?_
        rintro e w2 ⟨A2, c2, rfl, hcv, _, hb2⟩
        have sx : w2.cell? ⟨j, 0, none⟩ = some (.pointer (some ⟨s, 0, none⟩)) ∧ w2.cell? ⟨j, 1, none⟩ = some (.int .i64 v) ∧ w2.cell? ⟨j, 3, none⟩ = some (.slice (some ad) ps.length c) ∧ w2.cell? (ad.add n) = some (.string p) := ⟨cell_below hb2 y0a, cell_below hb2 y1a, cell_below hb2 y3a, cell_below hb2 x1a⟩
        have HCV := Lib.hid hcv
        have HB2 := Lib.hid (below_from HBD.out hb2)
        clear hcv hb2))
  go_wp2_with fail
  go_ret2
  exact ⟨A2, c2, rfl, HCV.out, HB2.out⟩
set_option maxRecDepth 100000 in
set_option maxHeartbeats 2000000 in
theorem end_any (j s g b pm now : Nat) (v : Int) (rt : ByteArray) (ps ns : List ByteArray) (F : List FileS) (L : List Int) (w : World) {base bj : Nat} (hbj : base ≤ bj) (hv : (Lit.int .i64 v).wf = true) (hL : L.length ≤ 1000) (hm : mapN F ≤ 90000) (hnow : now ≤ 2097152) (hrise : RiseF now F) (hbase : base ≤ w.heap.size) (hj : JobAt w bj j s v rt ps ns false) (hst : StoreAt w base s g b pm now F L) :
    Calls Tryz.prog 49 #[.pointer (some ⟨j, 0, none⟩)] w (UnpinPost s g b pm now F L v base (w.setCell ⟨j, 5, none⟩ (.bool true))) := by
  obtain ⟨pv, nv, hb, hp, hnn⟩ := hj.rows
  have y5 : w.cell? ⟨j, 5, none⟩ = some (.bool false) := by simp [World.cell?, hb]
  have f5 := frozen_of_row w j 5 _ _ hb
  have HS := Lib.hid (hst.other hb (grown_set w j 5 (.bool true)))
  have hjl := lt_of_block hb
  have HRI := Lib.hid hrise
  clear hp hnn hj hst hrise
  have hj1 : (w.setCell ⟨j, 5, none⟩ (.bool true)).heap[j]? = some (Obj.cells #[.pointer (some ⟨s, 0, none⟩), .int .i64 v, .string rt, pv, nv, .bool true] 126 (0, 0)) := by rw [heap_setCell_same w j 5 _ _ _ hb]; rfl
  have hsz1 : (w.setCell ⟨j, 5, none⟩ (.bool true)).heap.size = w.heap.size := by simp
  clear hb
  go_enter Tryz.func49, Tryz.ntmps49
  go_wp2_with fail
  generalize hW1 : w.setCell ⟨j, 5, none⟩ (.bool true) = W1 at *
  have hbd : Below W1.heap.size W1 W1.drew := Below.drew (Below.refl _ _)
  have HBD := Lib.hid hbd
  have hjd := (hbd.block j (lt_of_block hj1)).trans hj1
  have y0 : W1.drew.cell? ⟨j, 0, none⟩ = some (.pointer (some ⟨s, 0, none⟩)) := by simp [World.cell?, hjd]
  have y1 : W1.drew.cell? ⟨j, 1, none⟩ = some (.int .i64 v) := by simp [World.cell?, hjd]
  have y0b : W1.cell? ⟨j, 0, none⟩ = some (.pointer (some ⟨s, 0, none⟩)) := by simp [World.cell?, hj1]
  have y1b : W1.cell? ⟨j, 1, none⟩ = some (.int .i64 v) := by simp [World.cell?, hj1]
  have HUN := Lib.hid (unpin_any s g b pm now F L v W1.drew hv hL hm hnow HRI.out (by show base ≤ W1.heap.size; omega) (HS.out.below hbd))
  have HJD := Lib.hid hjd
  clear hbd hjd hj1 hW1 f5 y5
  go_region_held3 (fun w' => w'.cell? ⟨j, 0, none⟩ = some (.pointer (some ⟨s, 0, none⟩)) ∧ w'.cell? ⟨j, 1, none⟩ = some (.int .i64 v))
    (first
      | exact sx
      | (go_split_ands
         refine ⟨?_, ?_⟩ <;> first | assumption | go_keep))
    (first
     | (go_at_call 64
        refine HUN.out.mono ?_
        rintro e w2 hpost
        obtain ⟨r, hre⟩ : ∃ r : Int, e = .returned (.int .i64 r) := by rcases hpost with ⟨_, h, _⟩ | ⟨_, F', h, _⟩ <;> exact ⟨_, h⟩
        subst hre
        have hj2 : w2.heap[j]? = some (Obj.cells #[.pointer (some ⟨s, 0, none⟩), .int .i64 v, .string rt, pv, nv, .bool true] 126 (0, 0)) := by
          rcases hpost with ⟨_, _, h⟩ | ⟨_, F', _, _, _, _, _, _, h⟩
          · exact (h.block j (lt_of_block HJD.out)).trans HJD.out
          · exact h.block j _ _ _ HJD.out (by decide) (by decide) (by decide)
        have sx : w2.cell? ⟨j, 0, none⟩ = some (.pointer (some ⟨s, 0, none⟩)) ∧ w2.cell? ⟨j, 1, none⟩ = some (.int .i64 v) := ⟨by simp [World.cell?, hj2], by simp [World.cell?, hj2]⟩
        have HPOST := Lib.hid hpost
        clear hpost hj2))
  clear y0 y1 y0b y1b
  go_wp2_with fail
  go_ret
  rcases HPOST.out with ⟨h1, h2, h3⟩ | ⟨h1, F', h2, h3, h4, h5, h6, h7, h8⟩
  · exact .inl ⟨h1, h2, below_from HBD.out h3⟩
  · exact .inr ⟨h1, F', h2, h3, h4, h5, h6, (HBD.out.mono (by omega)).trans h7, (SFrame.of_below HBD.out).trans h8⟩
end Go.Proofs.YtkplkienbgoofaaGreatDoor

namespace Go.Proofs.YtkplkienbgoofaaGreatDoor
theorem hasP_longer (a : ByteArray) : hasP a (slash a) = false := by
  cases h : hasP a (slash a) with
  | false => rfl
  | true =>
    have := hasP_size h
    rw [slash_size] at this
    omega
theorem clashB_self (a : ByteArray) : clashB a a = false := by unfold clashB; rw [hasP_longer]; rfl
theorem clash_set {l : List ByteArray} : clashL l = false ↔ ∀ a ∈ l, ∀ b ∈ l, clashB a b = false := by
  have h1 : clashL l = false ↔ ∀ i (hi : i < l.length) j (hj : j < i), clashB l[i] (l[j]'(by omega)) = false := by
    unfold clashL
    rw [List.any_eq_false]
    constructor
    · intro h i hi j hj
      have := h i (List.mem_range.2 hi)
      rw [Bool.not_eq_true, List.any_eq_false] at this
      have h3 := this (l[j]'(by omega)) (List.mem_iff_getElem.2 ⟨j, by simp; omega, by simp⟩)
      simpa [List.getD, hi] using h3
    · intro h i hi
      have hi := List.mem_range.1 hi
      rw [Bool.not_eq_true, List.any_eq_false]
      intro q hq
      obtain ⟨j, hj, rfl⟩ := List.mem_iff_getElem.1 hq
      have hj2 : j < i := by simp at hj; omega
      have := h i hi j hj2
      simp [List.getD, hi, this]
  rw [h1]
  constructor
  · intro h a ha b hb
    obtain ⟨i, hi, rfl⟩ := List.mem_iff_getElem.1 ha
    obtain ⟨j, hj, rfl⟩ := List.mem_iff_getElem.1 hb
    rcases Nat.lt_trichotomy i j with hlt | rfl | hlt
    · rw [clashB_comm]; exact h j hj i hlt
    · exact clashB_self _
    · exact h i hi j hlt
  · exact fun h i hi j hj => h _ (List.getElem_mem hi) _ (List.getElem_mem _)
/-- What a version keeps to. -/
structure ValidT (now : Nat) (F : List FileS) : Prop where
  clash : ∀ a ∈ (listT now F now ⟨#[]⟩).1, ∀ b ∈ (listT now F now ⟨#[]⟩).1, clashB a b = false
  count : (listT now F now ⟨#[]⟩).1.length ≤ 64
  bytes : sumL (lenAt F now) (listT now F now ⟨#[]⟩).1 ≤ 262144
theorem endT_nil {now m : Nat} {after : List ByteArray} {n : Nat} : endT now m after n = .nil ↔ (∀ a ∈ after, ∀ b ∈ after, clashB a b = false) ∧ after.length ≤ 64 ∧ n ≤ 262144 ∧ now ≠ 1048576 := by
  unfold endT
  rw [← clash_set]
  constructor
  · intro h
    split at h
    · cases h
    · rename_i h1
      split at h
      · cases h
      · rename_i h2
        exact ⟨by simpa using h1, by omega, by omega, by omega⟩
  · rintro ⟨h1, h2, h3, h4⟩
    rw [if_neg (by simp [h1]), if_neg (by omega)]
theorem endT_code {now m : Nat} {after : List ByteArray} {n : Nat} : endT now m after n = .nil ∨ endT now m after n = .fault m 90 ∨ endT now m after n = .fault m 3 := by
  unfold endT
  split
  · exact .inr (.inl rfl)
  · split
    · exact .inr (.inr rfl)
    · exact .inl rfl
def putsOf (l : List ChgD) : List ChgD := l.filter fun c => !c.2.2
theorem chkGo_after {T : ByteArray → Bool} : ∀ {l : List ChgD} {i : Nat} {seen after : List ByteArray} {n : Nat} {af : List ByteArray} {m : Nat}, chkGo T i seen after n l = .ok af m → af = after ++ (putsOf l).map (·.1) ∧ m = n + ((putsOf l).map fun c => c.2.1.length).sum
  | [], _, _, _, _, _, _, h => by
    rw [chkGo] at h
    injection h with h1 h2
    simp [putsOf, h1, h2]
  | c :: r, i, seen, after, n, af, m, h => by
    rw [chkGo] at h
    split at h
    · cases h
    · split at h
      · cases h
      · split at h
        · cases h
        · split at h
          · cases h
          · obtain ⟨h1, h2⟩ := chkGo_after h
            cases hg : c.2.2 with
            | true =>
              have e : putsOf (c :: r) = putsOf r := by simp [putsOf, hg]
              rw [hg] at h1 h2
              rw [e]
              exact ⟨h1, h2⟩
            | false =>
              have e : putsOf (c :: r) = c :: putsOf r := by simp [putsOf, hg]
              rw [hg] at h1 h2
              simp only [Bool.false_eq_true, if_false] at h1 h2
              rw [e, h1, h2]
              simp
              omega
theorem beneath_root {q : ByteArray} : (beneathB ⟨#[]⟩ q).2 = true ↔ q ≠ ⟨#[]⟩ := by
  unfold beneathB
  simp [ByteArray.ext_iff, ByteArray.toList_eq]
theorem check_nonempty {p : ByteArray} (h : checkB p = none) : p ≠ ⟨#[]⟩ := fun e => by
  subst e
  revert h
  decide
theorem sum_le_mem {f g : ByteArray → Nat} {l : List ByteArray} (h : ∀ p ∈ l, f p = g p) : sumL f l = sumL g l := by
  unfold sumL
  rw [List.map_congr_left h]
theorem sumL_perm {f : ByteArray → Nat} {l r : List ByteArray} (h : l.Perm r) : sumL f l = sumL f r := sum_perm (h.map f)
theorem sumL_app (f : ByteArray → Nat) (l r : List ByteArray) : sumL f (l ++ r) = sumL f l + sumL f r := by simp [sumL]
theorem list_nodup {now : Nat} {F : List FileS} (ho : (F.map FileS.path).Nodup) (v : Int) (root : ByteArray) : (listT now F v root).1.Nodup := by
  rw [listT]
  split
  · exact List.nodup_nil
  · exact (sortB_sub _).nodup_iff.2 (ho.filter _)
/-- The listing behind changes. -/
theorem list_behind {now B : Nat} {F F' : List FileS} {l : List ChgD} (hc : chkT now F l = .nil) (hp : Puts (now + 1) B F l F') (hr : RiseF now F) (ho : (F.map FileS.path).Nodup) :
    ((listT (now + 1) F' ((now : Int) + 1) ⟨#[]⟩).1).Perm ((putsOf l).map (·.1) ++ stayL F now (l.map (·.1))) ∧ (∀ c ∈ putsOf l, lenAt F' ((now : Int) + 1) c.1 = c.2.1.length) ∧ (∀ q ∈ stayL F now (l.map (·.1)), lenAt F' ((now : Int) + 1) q = lenAt F now q) := by
  obtain ⟨hn, hck, _⟩ := chkT_once hc
  have hge : ∀ c ∈ putsOf l, c ∈ l ∧ c.2.2 = false := fun c h => by
    obtain ⟨a, b⟩ := List.mem_filter.1 h
    exact ⟨a, by simpa using b⟩
  have hst : ∀ q, q ∈ stayL F now (l.map (·.1)) ↔ q ∈ (listT now F now ⟨#[]⟩).1 ∧ q ∉ l.map (·.1) := fun q => by
    unfold stayL
    rw [List.mem_filter]
    constructor
    · rintro ⟨a, b⟩
      refine ⟨a, fun hm => ?_⟩
      rw [memB_true.2 hm] at b
      cases b
    · rintro ⟨a, b⟩
      refine ⟨a, ?_⟩
      cases hm : memB q (l.map (·.1)) with
      | true => exact absurd (memB_true.1 hm) b
      | false => rfl
  have hat : ∀ q, q ∉ l.map (·.1) → atRow F' ((now : Int) + 1) q = atRow F now q := fun q hq => by
    rw [puts_not hp hq]
    exact rise_top hr (by omega) (by omega) q
  refine ⟨nodup_perm (list_nodup (puts_size hp ho).2 _ _) ?_ (fun q => ?_), fun c hcm => ?_, fun q hq => ?_⟩
  · rw [List.nodup_append]
    refine ⟨hn.sublist ((List.filter_sublist).map _), ((list_nodup ho _ _).filter _), fun a ha b hb e => ?_⟩
    obtain ⟨c, hcm, rfl⟩ := List.mem_map.1 ha
    exact ((hst b).1 hb).2 (e ▸ List.mem_map.2 ⟨c, (hge c hcm).1, rfl⟩)
  · rw [List.mem_append, hst]
    by_cases hq : q ∈ l.map (·.1)
    · obtain ⟨c, hcl, rfl⟩ := List.mem_map.1 hq
      obtain ⟨dv, _, e⟩ := puts_mem hp hn (ver := (now : Int) + 1) (by omega) hcl
      have hth : thereB F' ((now : Int) + 1) c.1 = !c.2.2 := by unfold thereB; rw [e]
      rw [list_mem (by omega) (by omega)]
      constructor
      · rintro ⟨_, _, h3⟩
        rw [hth] at h3
        exact .inl (List.mem_map.2 ⟨c, List.mem_filter.2 ⟨hcl, h3⟩, rfl⟩)
      · rintro (h | h)
        · obtain ⟨c', hc', e'⟩ := List.mem_map.1 h
          obtain ⟨a, b⟩ := hge c' hc'
          obtain ⟨dv', _, e2⟩ := puts_mem hp hn (ver := (now : Int) + 1) (by omega) a
          have hth' : thereB F' ((now : Int) + 1) c.1 = true := by
            unfold thereB
            rw [← show c'.1 = c.1 from e', e2]
            simp [b]
          exact ⟨there_path hth', beneath_root.2 (check_nonempty (hck c hcl)), hth'⟩
        · exact absurd hq h.2
    · have hth : thereB F' ((now : Int) + 1) q = thereB F now q := by unfold thereB; rw [hat q hq]
      rw [list_mem (by omega) (by omega), list_mem (by omega) (by omega), hth]
      constructor
      · rintro ⟨_, h2, h3⟩
        exact .inr ⟨⟨there_path h3, h2, h3⟩, hq⟩
      · rintro (h | h)
        · obtain ⟨c', hc', e'⟩ := List.mem_map.1 h
          exact absurd (List.mem_map.2 ⟨c', (hge c' hc').1, e'⟩) hq
        · obtain ⟨_, h2, h3⟩ := h.1
          exact ⟨there_path (by rw [hth]; exact h3), h2, h3⟩
  · obtain ⟨a, b⟩ := hge c hcm
    obtain ⟨dv, _, e⟩ := puts_mem hp hn (ver := (now : Int) + 1) (by omega) a
    unfold lenAt
    rw [e]
  · unfold lenAt
    rw [hat q ((hst q).1 hq).2]
theorem sumL_map (f : ByteArray → Nat) (l : List ChgD) (h : ∀ c ∈ l, f c.1 = c.2.1.length) : sumL f (l.map (·.1)) = (l.map fun c => c.2.1.length).sum := by
  unfold sumL
  rw [List.map_map]
  congr 1
  exact List.map_congr_left (fun c hc => h c hc)
theorem valid_puts {now B : Nat} {F F' : List FileS} {l : List ChgD} (hc : chkT now F l = .nil) (hp : Puts (now + 1) B F l F') (hr : RiseF now F) (ho : (F.map FileS.path).Nodup) : ValidT (now + 1) F' := by
  obtain ⟨h1, h2, h3⟩ := list_behind hc hp hr ho
  obtain ⟨af, m, hgo, hend⟩ := chkT_ok hc
  obtain ⟨rfl, rfl⟩ := chkGo_after hgo
  rw [List.nil_append] at hend
  obtain ⟨e1, e2, e3, _⟩ := endT_nil.1 hend
  have hcast : ((now + 1 : Nat) : Int) = (now : Int) + 1 := by omega
  refine ⟨fun a ha b hb => ?_, ?_, ?_⟩
  · rw [hcast] at ha hb
    exact e1 a (h1.mem_iff.1 ha) b (h1.mem_iff.1 hb)
  · rw [hcast, h1.length_eq]
    exact e2
  · rw [hcast, sumL_perm h1, sumL_app, sumL_map _ _ h2, sum_le_mem h3]
    omega
theorem valid_none : ValidT 0 [] := by
  have e : (listT 0 [] (0 : Nat) ⟨#[]⟩).1 = [] := by
    rw [listT, if_neg (by omega)]
    simp [sortB]
  refine ⟨fun a ha => ?_, ?_, ?_⟩
  · rw [e] at ha; cases ha
  · rw [e]; simp
  · rw [e]; simp [sumL]
/-- Some files less keep to it, too. -/
theorem valid_stay {now : Nat} {F : List FileS} (h : ValidT now F) (seen : List ByteArray) : (∀ a ∈ stayL F now seen, ∀ b ∈ stayL F now seen, clashB a b = false) ∧ (stayL F now seen).length ≤ 64 ∧ sumL (lenAt F now) (stayL F now seen) ≤ 262144 := by
  have hs : ∀ a ∈ stayL F now seen, a ∈ (listT now F now ⟨#[]⟩).1 := fun a ha => (List.mem_filter.1 ha).1
  refine ⟨fun a ha b hb => h.clash a (hs a ha) b (hs b hb), Nat.le_trans (List.length_filter_le _ _) h.count, Nat.le_trans ?_ h.bytes⟩
  unfold stayL
  generalize (listT now F now ⟨#[]⟩).1 = L
  induction L with
  | nil => simp [sumL]
  | cons a r ih =>
    rw [List.filter_cons]
    split
    · simp only [sumL, List.map_cons, List.sum_cons] at ih ⊢
      omega
    · simp only [sumL, List.map_cons, List.sum_cons] at ih ⊢
      omega
/-- Nothing can be committed. -/
theorem chk_nothing {now : Nat} {F : List FileS} (h : ValidT now F) (hn : now < 1048576) : chkT now F [] = .nil := by
  obtain ⟨a, b, c⟩ := valid_stay h []
  unfold chkT
  rw [chkGo]
  exact endT_nil.2 ⟨by simpa using a, by simpa using b, by simpa using c, by omega⟩
/-- What is there can be taken out. -/
theorem chk_gone {now : Nat} {F : List FileS} (h : ValidT now F) (hn : now < 1048576) {p : ByteArray} (hp : checkB p = none) (ht : thereB F now p = true) : chkT now F [(p, [], true)] = .nil := by
  obtain ⟨a, b, c⟩ := valid_stay h [p]
  unfold chkT
  have e : chkGo (thereB F now) 0 [] [] 0 [(p, [], true)] = .ok [] 0 := by simp [chkGo, hp, memB, ht]
  rw [e]
  exact endT_nil.2 ⟨by simpa using a, by simpa using b, by simpa using c, by omega⟩
theorem chk_one_code {now : Nat} {F : List FileS} {p : ByteArray} {d : List Int} (hp : checkB p = none) : chkT now F [(p, d, false)] = .nil ∨ chkT now F [(p, d, false)] = .fault 1 90 ∨ chkT now F [(p, d, false)] = .fault 1 3 := by
  unfold chkT
  have e : chkGo (thereB F now) 0 [] [] 0 [(p, d, false)] = .ok [p] d.length := by simp [chkGo, hp, memB]
  rw [e]
  exact endT_code
end Go.Proofs.YtkplkienbgoofaaGreatDoor

namespace Go.Proofs.YtkplkienbgoofaaGreatDoor
open Go.RowKit Go.Maps Go.WideMaps Go.WideAt
open Go.Proofs.YtkplkienbgoofaaGreatDoorW.PrintWords (Kd ReadsRow)
/-- What a version's files read as. -/
def dataT (now : Nat) (F : List FileS) (v : Int) (p : ByteArray) : List Int := (readT now F v p).1
def wasT (now : Nat) (F : List FileS) (v : Int) (L : List ByteArray) : List ByteArray := L.map fun p => strOfNums (dataT now F v p)
theorem data_there {now : Nat} {F : List FileS} {v : Int} {root q : ByteArray} (h : q ∈ (listT now F v root).1) : readT now F v q = (dataT now F v q, 0) := by
  obtain ⟨_, d, hd⟩ := list_there h
  unfold dataT
  rw [hd]
theorem path_small {w : World} {base g b now : Nat} {F : List FileS} (h : TreeAt w base g b now F) {p : ByteArray} (hp : p ∈ F.map FileS.path) : p.size ≤ maxLen := by
  obtain ⟨f, hf, rfl⟩ := List.mem_map.1 hp
  have := (h.files f hf).2.2.2
  unfold maxLen
  omega
/-- The state between the operations of a script. -/
structure StayAt (w0 : World) (bs g b : Nat) (F1 : List FileS) (A1 A2 : Option Addr) (c1 c2 : Nat) (L W : List ByteArray) (k now : Nat) (F : List FileS) (wr : World) : Prop where
  tree : TreeAt wr bs g b now F
  size : mapN F ≤ 80 + k * 80
  nows : 1 ≤ now ∧ now ≤ 1 + k
  rise : RiseF now F
  shows : Shows 1 F1 now F 1
  list : wr.ownsRow bs 9 1 (.slice A1 L.length c1) L.length (strs L)
  was : wr.ownsRow bs 9 1 (.slice A2 W.length c2) W.length (strs W)
  below : Below w0.heap.size w0 wr
  base : bs ≤ wr.heap.size
theorem StayAt.stay {w0 : World} {bs g b : Nat} {F1 : List FileS} {A1 A2 : Option Addr} {c1 c2 : Nat} {L W : List ByteArray} {k now : Nat} {F : List FileS} {wr w' : World} (h : StayAt w0 bs g b F1 A1 A2 c1 c2 L W k now F wr) (hb : Below wr.heap.size wr w') : StayAt w0 bs g b F1 A1 A2 c1 c2 L W k now F w' :=
  ⟨h.tree.below hb, h.size, h.nows, h.rise, h.shows, own_stay h.list hb, own_stay h.was hb, below_from h.below hb, Nat.le_trans h.base hb.size⟩
theorem StayAt.commit {w0 : World} {bs g b : Nat} {F1 : List FileS} {A1 A2 : Option Addr} {c1 c2 : Nat} {L W : List ByteArray} {k now m : Nat} {F F' : List FileS} {wr w' : World} {now' : Nat} (h : StayAt w0 bs g b F1 A1 A2 c1 c2 L W k now F wr) (hm : Mid g b now m F bs wr w' now' F') (hm80 : m ≤ 80) (hs : ∀ v, 0 ≤ v → v ≤ (now : Int) → Shows now F now' F' v) (hbs : w0.heap.size ≤ bs) : StayAt w0 bs g b F1 A1 A2 c1 c2 L W (k + 1) now' F' w' :=
  ⟨hm.tree, by have := hm.size; have := h.size; omega, by have := hm.now; have := h.nows; omega, hm.rise, h.shows.trans (hs 1 (by omega) (by have := h.nows; omega)), texts_stay h.list hm.frame h.tree, texts_stay h.was hm.frame h.tree, h.below.trans (hm.below.mono hbs), Nat.le_trans h.base hm.below.size⟩
theorem StayAt.forget {w0 : World} {bs g b : Nat} {F1 : List FileS} {A1 A2 : Option Addr} {c1 c2 : Nat} {L W : List ByteArray} {k now n : Nat} {keep : List Int} {F F' : List FileS} {wr w' : World} (h : StayAt w0 bs g b F1 A1 A2 c1 c2 L W k now F wr) (ht : TreeAt w' bs g b now F') (hn : n + mapN F' = mapN F) (hf : Forgot now keep F F') (hg : wr.grownBy w' (some b)) (hk : (1 : Int) ∈ keep) (hbs : w0.heap.size ≤ bs) : StayAt w0 bs g b F1 A1 A2 c1 c2 L W (k + 1) now F' w' :=
  ⟨ht, by have := h.size; omega, by have := h.nows; omega, hf.rise h.rise, h.shows.trans (shows_forgot hf h.tree.once h.rise (.inl hk) (by omega) (by have := h.nows; omega)), texts_map h.list hg h.tree, texts_map h.was hg h.tree,
    h.below.grown hg (Nat.le_trans hbs h.base) (fun j hj => by cases hj; exact Nat.le_trans hbs h.tree.hb), Nat.le_trans h.base hg.size⟩
end Go.Proofs.YtkplkienbgoofaaGreatDoor

namespace Go.Proofs.YtkplkienbgoofaaGreatDoor
open Go.RowKit Go.Maps Go.WideMaps Go.WideAt
theorem lenAt_le {w : World} {base g b now : Nat} {F : List FileS} (h : TreeAt w base g b now F) (v : Int) (p : ByteArray) : lenAt F v p ≤ 300000 := by
  unfold lenAt
  cases hr : atRow F v p with
  | none => simp
  | some r => exact (h.data hr).2.2
theorem at_len {w : World} {base g b now : Nat} {F : List FileS} (h : TreeAt w base g b now F) (v : Int) (p : ByteArray) : ∃ A c u, atV (atRow F v p) = .tuple #[.slice A (lenAt F v p) c, u] := by
  unfold lenAt
  cases hr : atRow F v p with
  | none => exact ⟨_, _, _, rfl⟩
  | some r =>
    obtain ⟨A, c, e, _⟩ := own_bytes (h.data hr).1
    exact ⟨A, c, _, by rw [atV, e]⟩
theorem read_len {now : Nat} {F : List FileS} {v : Int} {p : ByteArray} {d : List Int} (h : readT now F v p = (d, 0)) : lenAt F v p = d.length := by
  unfold readT at h
  split at h
  · cases h
  · unfold lenAt
    cases hr : atRow F v p with
    | none => rw [hr] at h; cases h
    | some r =>
      rw [hr] at h
      simp only at h
      split at h
      · cases h
      · injection h with h _
        rw [← h]
theorem read_zero {now : Nat} {F : List FileS} {v : Int} {p : ByteArray} (h0 : 0 ≤ v) (h1 : v ≤ now) : (thereB F v p = true → ∃ d, readT now F v p = (d, 0)) ∧ (thereB F v p = false → readT now F v p = ([], 4)) := by
  rw [readT, if_neg (by omega)]
  unfold thereB
  cases hr : atRow F v p with
  | none => exact And.intro (fun h => by cases h) (fun _ => rfl)
  | some r =>
    cases hg : r.gone with
    | true => exact And.intro (fun h => by simp [hg] at h) (fun _ => by simp [hg])
    | false => exact And.intro (fun _ => ⟨r.data, by simp [hg]⟩) (fun h => by simp [hg] at h)
set_option maxRecDepth 100000 in
set_option maxHeartbeats 4000000 in
theorem bytes_any (g b now : Nat) (v : Int) (root : ByteArray) (F : List FileS) (w : World) {base : Nat} (hroot : root.size ≤ 140737488351232) (hm : mapN F ≤ 90000) (ht : TreeAt w base g b now F) :
    Calls Tryz.prog 79 #[.pointer (some ⟨g, 0, none⟩), .int .i64 v, .string root] w fun e w' => e = .returned (.int .i64 ((sumL (lenAt F v) (listT now F v root).1 : Nat) : Int)) ∧ Below w.heap.size w w' := by
  have hs := ht.small hm
  have HLA := Lib.hid (list_any g b now v root F w hroot (fun f hf => Nat.le_trans (hs.2 f hf) (by omega)) (Nat.le_trans hs.1 (by omega)) ht)
  have hll := Nat.le_trans (list_len now F v root) hs.1
  have HT := Lib.hid ht
  have HS := Lib.hid hs
  obtain ⟨L, hL⟩ : ∃ L, L = listT now F v root := ⟨_, rfl⟩
  have hps : ∀ p ∈ L.1, p.size ≤ maxLen := fun p hp => by
    rw [hL] at hp
    obtain ⟨f, hf, rfl⟩ := List.mem_map.1 (list_there hp).1
    have := (ht.files f hf).2.2.2
    unfold maxLen
    omega
  have HPS := Lib.hid hps
  rw [← hL] at hll ⊢
  have HL := Lib.hid hL
  clear ht hs hL hps
  go_enter Tryz.func79, Tryz.ntmps79
  go_wp2_with fail
  refine HLA.out.mono ?_
  unfold ListPost
  rw [← HL.out]
  rintro e w2 ⟨u, rfl, ho, hb2⟩
  obtain ⟨A, c, rfl, hc, hr⟩ := own_row ho
  have HR := Lib.hid hr
  have HT2 := Lib.hid (HT.out.below hb2)
  have HB2 := Lib.hid hb2
  clear ho hr hb2
  go_wp2_with fail
  go_loopw [7, 23] (fun n i wr => ∃ k : Nat, k ≤ L.1.length ∧ i = .int .i64 k ∧ n = .int .i64 ((sumL (lenAt F v) (L.1.take k) : Nat) : Int) ∧ Below w2.heap.size w2 wr) (fun _ i _ => L.1.length - (intOf i).toNat)
  case atStart => exact ⟨0, by omega, rfl, by simp [sumL], Below.refl _ _⟩
  case round =>
    obtain ⟨k, hk, rfl, rfl, hbr⟩ := hrel
    have HBR := Lib.hid hbr
    clear hbr
    by_cases hlt : k < L.1.length
    · obtain ⟨ad, rfl, htx⟩ := (HR.out.below HBR.out) (by omega)
      obtain ⟨p, hp⟩ : ∃ p, p = L.1[k] := ⟨_, rfl⟩
      have x1 := htx k hlt
      rw [← hp] at x1
      have hpz := HPS.out p (hp ▸ List.getElem_mem hlt)
      have htk : sumL (lenAt F v) (L.1.take (k + 1)) = sumL (lenAt F v) (L.1.take k) + lenAt F v p := by
        rw [List.take_succ_eq_append_getElem hlt, sumL_snoc, hp]
      have HTK := Lib.hid htk
      have hle := sumL_le (l := L.1.take k) (f := lenAt F v) (m := 300000) (fun q _ => lenAt_le HT.out v q)
      have hlen : (L.1.take k).length ≤ 90000 := by rw [List.length_take]; omega
      have hle2 : sumL (lenAt F v) (L.1.take k) ≤ 27000000000 := Nat.le_trans hle (Nat.mul_le_mul_right 300000 hlen)
      have hlp := lenAt_le HT.out v p
      obtain ⟨s, hs⟩ : ∃ s, s = sumL (lenAt F v) (L.1.take k) := ⟨_, rfl⟩
      rw [← hs] at hle2 ⊢
      have HSS := Lib.hid hs
      obtain ⟨Ad, cd, ud, hat⟩ := at_len HT.out v p
      have HAT := Lib.hid hat
      clear htx hp htk hle hlen hs hat
      go_wp2_with fail
      refine (at_any g b now v p F wr hpz (fun f hf => Nat.le_trans (HS.out.2 f hf) (by omega)) (HT2.out.below HBR.out)).mono ?_
      rw [HAT.out]
      rintro e w3 ⟨rfl, hb3⟩
      have HB3 := Lib.hid (below_from HBR.out hb3)
      clear hb3
      go_wp2_with fail
      go_roundw
      case rel => exact ⟨k + 1, by omega, by go_num, by rw [HTK.out, ← HSS.out]; go_num, HB3.out⟩
      case measure => simp [intOf]; omega
    · obtain rfl : k = L.1.length := by omega
      have htk : L.1.take L.1.length = L.1 := List.take_length
      have HTK := Lib.hid htk
      clear htk
      go_wp2_with fail
      go_ret
      exact ⟨(by first | (rw [HTK.out]; rfl) | rw [HTK.out]), below_from HB2.out HBR.out⟩
end Go.Proofs.YtkplkienbgoofaaGreatDoor

namespace Go.Proofs.YtkplkienbgoofaaGreatDoor
/-- A path's first segment. -/
def topB (p : ByteArray) : ByteArray := ⟨(headSeg p.data.toList).toArray⟩
theorem topB_data (p : ByteArray) : (topB p).data.toList = headSeg p.data.toList := by simp [topB]
theorem headSeg_no : ∀ l : List UInt8, (47 : UInt8) ∉ headSeg l
  | [] => by simp [headSeg]
  | c :: r => by
    by_cases hc : c = 47
    · subst hc; simp [headSeg]
    · have h1 : headSeg (c :: r) = c :: headSeg r := by simp [headSeg, List.takeWhile_cons, hc]
      rw [h1, List.mem_cons, not_or]
      exact ⟨fun e => hc e.symm, headSeg_no r⟩
theorem headSeg_self : ∀ {q : List UInt8}, (47 : UInt8) ∉ q → ∀ r, headSeg (q ++ 47 :: r) = q ∧ headSeg q = q
  | [], _, r => by simp [headSeg]
  | c :: q, h, r => by
    rw [List.mem_cons, not_or] at h
    obtain ⟨h1, h2⟩ := headSeg_self h.2 r
    have hc : c ≠ 47 := fun e => h.1 e.symm
    constructor
    · show headSeg (c :: (q ++ 47 :: r)) = _
      rw [show headSeg (c :: (q ++ 47 :: r)) = c :: headSeg (q ++ 47 :: r) by simp [headSeg, List.takeWhile_cons, hc], h1]
    · rw [show headSeg (c :: q) = c :: headSeg q by simp [headSeg, List.takeWhile_cons, hc], h2]
theorem headSeg_parts (l : List UInt8) (h : (headSeg l).length < l.length) : l = headSeg l ++ 47 :: l.drop ((headSeg l).length + 1) := by
  have h1 := List.take_append_drop (headSeg l).length l
  rw [headSeg_take, List.drop_eq_getElem_cons h, headSeg_end l h] at h1
  exact h1.symm
theorem headSeg_whole (l : List UInt8) (h : ¬ (headSeg l).length < l.length) : headSeg l = l := by
  have h1 := headSeg_take l
  rw [List.take_of_length_le (by omega)] at h1
  exact h1.symm
theorem partsBad_first {i a : Nat} {p : List UInt8} {ps : List (List UInt8)} (h : partsBad i a (p :: ps) = none) : segNo p = false ∧ partsBad (i + 1) (a + (p.length + 1)) ps = none := by
  rw [partsBad] at h
  split at h
  · cases h
  · split at h
    · cases h
    · rename_i h1
      split at h
      · cases h
      · exact ⟨by simpa using h1, h⟩
theorem segNo_nil : segNo [] = true := by decide
/-- A path's first segment isn't empty, nor is what comes behind its slash. -/
theorem check_top {p : ByteArray} (h : checkB p = none) : headSeg p.data.toList ≠ [] ∧ ((headSeg p.data.toList).length < p.data.toList.length → p.data.toList.drop ((headSeg p.data.toList).length + 1) ≠ []) := by
  have h1 : 1 ≤ p.size ∧ p.size ≤ 64 := by
    unfold checkB at h
    split at h
    · cases h
    · rename_i hn
      have hn2 : p.data.toList.isEmpty = false ∧ ¬ 64 < p.size := by simpa using hn
      refine ⟨?_, by omega⟩
      have := hn2.1
      rw [← Bool.not_eq_true, List.isEmpty_iff_length_eq_zero, size_len] at this
      omega
  rw [checkB_slash p h1.1 h1.2, splitSlash_head] at h
  obtain ⟨h2, h3⟩ := partsBad_first h
  refine ⟨fun e => ?_, fun hlt e => ?_⟩
  · rw [e, segNo_nil] at h2
    cases h2
  · rw [if_pos hlt, e] at h3
    have h4 : splitSlash [] = [[]] := rfl
    rw [h4] at h3
    obtain ⟨h5, _⟩ := partsBad_first h3
    rw [segNo_nil] at h5
    cases h5
theorem beneath_iff {q p : ByteArray} (hq : q.data.toList ≠ []) : (beneathB q p).2 = true ↔ ∃ r, r ≠ [] ∧ p.data.toList = q.data.toList ++ 47 :: r := by
  have hs : (slash q).data.toList = q.data.toList ++ [47] := by simp [slash]
  have he : q.toList.isEmpty = false := by
    rw [ByteArray.toList_eq, ← Bool.not_eq_true, List.isEmpty_iff]
    exact hq
  unfold beneathB
  rw [he]
  simp only [Bool.false_eq_true, if_false, Bool.and_eq_true, Bool.not_eq_true']
  have ht : (trimP p (slash q)).toList = Lib.trimPrefix p.data.toList (slash q).data.toList := by rw [ByteArray.toList_eq]; simp [trimP]
  rw [ht]
  unfold hasP Lib.hasPrefix Lib.trimPrefix
  rw [hs]
  constructor
  · rintro ⟨h1, h2⟩
    obtain ⟨r, hr⟩ := List.isPrefixOf_iff_prefix.1 h1
    refine ⟨r, fun e => ?_, by rw [← hr]; simp⟩
    rw [if_pos (by simpa [Lib.hasPrefix] using h1), ← hr, List.drop_left, e] at h2
    simp at h2
  · rintro ⟨r, hr, e⟩
    have h1 : (q.data.toList ++ [47]).isPrefixOf p.data.toList = true := List.isPrefixOf_iff_prefix.2 ⟨r, by rw [e]; simp⟩
    refine ⟨h1, ?_⟩
    rw [if_pos (by simpa [Lib.hasPrefix] using h1), e]
    have e2 : q.data.toList ++ 47 :: r = (q.data.toList ++ [47]) ++ r := by simp
    rw [e2, List.drop_left]
    cases r with
    | nil => exact absurd rfl hr
    | cons a t => rfl
/-- The first segments, each once. -/
def topsL : List ByteArray → List ByteArray
  | [] => []
  | p :: r => if memB (topB p) (topsL r) then topsL r else topB p :: topsL r
theorem topsL_mem : ∀ {l : List ByteArray} {q : ByteArray}, q ∈ topsL l ↔ ∃ p ∈ l, topB p = q
  | [], q => by simp [topsL]
  | p :: r, q => by
    have ih := topsL_mem (l := r) (q := q)
    rw [topsL]
    split
    · rename_i h
      rw [ih]
      constructor
      · rintro ⟨x, hx, e⟩
        exact ⟨x, by simp [hx], e⟩
      · rintro ⟨x, hx, e⟩
        rcases List.mem_cons.1 hx with rfl | hx
        · rw [e] at h
          exact ih.1 (memB_true.1 h)
        · exact ⟨x, hx, e⟩
    · rw [List.mem_cons, ih]
      constructor
      · rintro (rfl | ⟨x, hx, e⟩)
        · exact ⟨p, by simp, rfl⟩
        · exact ⟨x, by simp [hx], e⟩
      · rintro ⟨x, hx, e⟩
        rcases List.mem_cons.1 hx with rfl | hx
        · exact .inl e.symm
        · exact .inr ⟨x, hx, e⟩
theorem topsL_nodup : ∀ l : List ByteArray, (topsL l).Nodup
  | [] => by simp [topsL]
  | p :: r => by
    rw [topsL]
    split
    · exact topsL_nodup r
    · rename_i h
      exact List.nodup_cons.2 ⟨fun hm => h (memB_true.2 hm), topsL_nodup r⟩
theorem sum_zero (T : List ByteArray) : (T.map fun _ => (0 : Nat)).sum = 0 := by
  induction T with
  | nil => rfl
  | cons b s ih => rw [List.map_cons, List.sum_cons, ih]
theorem sum_one {T : List ByteArray} (hn : T.Nodup) {t : ByteArray} (ht : t ∈ T) (x : Nat) : (T.map fun q => if t = q then x else 0).sum = x := by
  induction T with
  | nil => cases ht
  | cons a r ih =>
    rw [List.nodup_cons] at hn
    rw [List.map_cons, List.sum_cons]
    rcases List.mem_cons.1 ht with rfl | ht
    · rw [if_pos rfl]
      have h0 : (r.map fun q => if t = q then x else 0).sum = 0 := by
        have : r.map (fun q => if t = q then x else 0) = r.map (fun _ => 0) := List.map_congr_left (fun q hq => if_neg (fun e => hn.1 (by rw [e]; exact hq)))
        rw [this]
        exact sum_zero r
      omega
    · rw [if_neg (fun e => hn.1 (by rw [← e]; exact ht)), ih hn.2 ht]
      omega
theorem sum_add (T : List ByteArray) (f g : ByteArray → Nat) : (T.map fun q => f q + g q).sum = (T.map f).sum + (T.map g).sum := by
  induction T with
  | nil => rfl
  | cons a r ih => simp only [List.map_cons, List.sum_cons, ih]; omega
/-- Sums part by part. -/
theorem sum_parts (f : ByteArray → Nat) {T : List ByteArray} (hn : T.Nodup) : ∀ {L : List ByteArray}, (∀ p ∈ L, topB p ∈ T) → (T.map fun q => sumL f (L.filter fun p => decide (topB p = q))).sum = sumL f L
  | [], _ => by
    have e : (T.map fun q => sumL f (([] : List ByteArray).filter fun p => decide (topB p = q))) = T.map fun _ => 0 := rfl
    rw [e]
    exact sum_zero T
  | p :: r, h => by
    have ih := sum_parts f hn (L := r) (fun x hx => h x (by simp [hx]))
    have e : (T.map fun q => sumL f ((p :: r).filter fun p => decide (topB p = q))) = T.map fun q => (if topB p = q then f p else 0) + sumL f (r.filter fun p => decide (topB p = q)) := List.map_congr_left (fun q _ => by
      rw [List.filter_cons]
      by_cases hp : topB p = q
      · simp [hp, sumL]
      · simp [hp])
    rw [e, sum_add, sum_one hn (h p (by simp)), ih]
    simp [sumL]
/-- What is told of a root: how many files, and how many bytes. -/
def cntR (F : List FileS) (now : Nat) (v : Int) (f : ByteArray → Nat) (q : ByteArray) : Nat := sumL f (listT now F v q).1 + (if thereB F v q then f q else 0)
theorem part_perm {now : Nat} {F : List FileS} (ho : (F.map FileS.path).Nodup) {v : Int} (h0 : 0 ≤ v) (h1 : v ≤ now) (hck : ∀ p ∈ F.map FileS.path, checkB p = none) {q : ByteArray} (hq : ∃ p ∈ (listT now F v ⟨#[]⟩).1, topB p = q) :
    ((listT now F v ⟨#[]⟩).1.filter fun p => decide (topB p = q)).Perm ((listT now F v q).1 ++ (if thereB F v q then [q] else [])) := by
  obtain ⟨p0, hp0, rfl⟩ := hq
  have hc0 := check_top (hck p0 ((list_mem h0 h1).1 hp0).1)
  have hqne : (topB p0).data.toList ≠ [] := by rw [topB_data]; exact hc0.1
  have hqno : (47 : UInt8) ∉ (topB p0).data.toList := by rw [topB_data]; exact headSeg_no _
  generalize topB p0 = q at hqne hqno
  have hqe : q ≠ ⟨#[]⟩ := fun e => hqne (by rw [e])
  have htopq : topB q = q := ba_ext (by rw [topB_data]; exact (headSeg_self hqno []).2)
  refine nodup_perm ((list_nodup ho _ _).filter _) ?_ (fun p => ?_)
  · rw [List.nodup_append]
    refine ⟨list_nodup ho _ _, ?_, fun a ha b hb e => ?_⟩
    · split <;> simp
    · split at hb
      · obtain rfl := List.mem_singleton.1 hb
        subst e
        obtain ⟨r, hr, e2⟩ := (beneath_iff hqne).1 ((list_mem h0 h1).1 ha).2.1
        have := congrArg List.length e2
        simp at this
      · cases hb
  · rw [List.mem_filter, List.mem_append, list_mem h0 h1, list_mem h0 h1]
    constructor
    · rintro ⟨⟨a, b, c⟩, e⟩
      have e : topB p = q := by simpa using e
      have hcp := check_top (hck p a)
      have hd := congrArg (fun x : ByteArray => x.data.toList) e
      simp only [topB_data] at hd
      by_cases hlt : (headSeg p.data.toList).length < p.data.toList.length
      · refine .inl ⟨a, (beneath_iff hqne).2 ⟨_, hcp.2 hlt, ?_⟩, c⟩
        have := headSeg_parts _ hlt
        rw [hd] at this ⊢
        exact this
      · have hpq : p = q := ba_ext (by rw [← hd]; exact (headSeg_whole _ hlt).symm)
        subst hpq
        refine .inr ?_
        rw [if_pos c]
        simp
    · rintro (⟨a, b, c⟩ | h)
      · obtain ⟨r, hr, e⟩ := (beneath_iff hqne).1 b
        refine ⟨⟨a, beneath_root.2 (check_nonempty (hck p a)), c⟩, ?_⟩
        rw [decide_eq_true_eq]
        refine ba_ext ?_
        rw [topB_data, e]
        exact (headSeg_self hqno r).1
      · split at h
        · rename_i hth
          obtain rfl := List.mem_singleton.1 h
          exact ⟨⟨there_path hth, beneath_root.2 hqe, hth⟩, by simp [htopq]⟩
        · cases h
/-- All together. -/
theorem tops_all {now : Nat} {F : List FileS} (ho : (F.map FileS.path).Nodup) {v : Int} (h0 : 0 ≤ v) (h1 : v ≤ now) (hck : ∀ p ∈ F.map FileS.path, checkB p = none) (f : ByteArray → Nat) :
    ((topsL (listT now F v ⟨#[]⟩).1).map (cntR F now v f)).sum = sumL f (listT now F v ⟨#[]⟩).1 := by
  rw [← sum_parts f (topsL_nodup (listT now F v ⟨#[]⟩).1) (fun p hp => topsL_mem.2 ⟨p, hp, rfl⟩)]
  congr 1
  refine List.map_congr_left (fun q hq => ?_)
  rw [sumL_perm (part_perm ho h0 h1 hck (topsL_mem.1 hq)), sumL_app, cntR]
  congr 1
  split <;> simp [sumL]
theorem sumL_count (l : List ByteArray) : sumL (fun _ => 1) l = l.length := by
  induction l with
  | nil => rfl
  | cons a r ih => simp only [sumL, List.map_cons, List.sum_cons, List.length_cons] at ih ⊢; omega
end Go.Proofs.YtkplkienbgoofaaGreatDoor

namespace Go.Proofs.YtkplkienbgoofaaGreatDoor
open Go.RowKit Go.Maps Go.WideMaps Go.WideAt
theorem valid_forgot2 {now : Nat} {K : List Int} {F F' : List FileS} (h : Forgot (now : Int) K F F') (ho : (F.map FileS.path).Nodup) (hr : RiseF now F) (hv : ValidT now F) : ValidT now F' := by
  have e : listT now F' now ⟨#[]⟩ = listT now F now ⟨#[]⟩ := h.list ho hr (.inr rfl) (by omega) (by omega) _
  refine ⟨by rw [e]; exact hv.clash, by rw [e]; exact hv.count, ?_⟩
  rw [e]
  refine Nat.le_trans (Nat.le_of_eq ?_) hv.bytes
  unfold sumL
  congr 1
  refine List.map_congr_left (fun p hp => ?_)
  have h1 := data_there hp
  have h2 : readT now F' now p = (dataT now F now p, 0) := by rw [h.read ho hr (.inr rfl)]; exact h1
  rw [read_len h1, read_len h2]
theorem paths_forgot2 {now : Int} {K : List Int} {F F' : List FileS} (h : Forgot now K F F') (hp : ∀ f ∈ F, checkB f.path = none) : ∀ f ∈ F', checkB f.path = none := fun f hf => by
  obtain ⟨f0, h0, e, _, _⟩ := h.mem hf
  rw [← e]
  exact hp f0 h0
/-- Files that a store may hold. -/
structure OkF (now : Nat) (F : List FileS) : Prop where
  rise : RiseF now F
  valid : ValidT now F
  paths : ∀ f ∈ F, checkB f.path = none
theorem ok_none : OkF 0 [] := ⟨rise_none _, valid_none, fun f hf => by cases hf⟩
theorem ok_made {now B : Nat} {F F1 F' : List FileS} {l : List ChgD} {K : List Int} (h : OkF now F) (ho : (F.map FileS.path).Nodup) (hc : chkT now F l = .nil) (hp : Puts (now + 1) B F l F1) (hf : Forgot ((now + 1 : Nat) : Int) K F1 F') : OkF (now + 1) F' := by
  obtain ⟨af, m, hgo, _⟩ := chkT_ok hc
  obtain ⟨ho1, _, hck, _⟩ := chkGo_once hgo
  have hr1 : RiseF ((now + 1 : Nat) : Int) F1 := (rise_puts hp h.rise ho1).1
  have hn1 := (puts_size hp ho).2
  refine ⟨hf.rise hr1, valid_forgot2 hf hn1 hr1 (valid_puts hc hp h.rise ho), paths_forgot2 hf (fun f hf1 => ?_)⟩
  rcases puts_paths hp f hf1 with hm | hm
  · obtain ⟨f0, h0, e⟩ := List.mem_map.1 hm
    rw [← e]; exact h.paths f0 h0
  · obtain ⟨c, h0, e⟩ := List.mem_map.1 hm
    rw [← e]; exact hck c h0
theorem ok_first {s g b pm : Nat} {l : List ChgD} {base : Nat} {w w' : World} {e : Ending} (hp : SCommitPost s g b pm 0 l [] [] base w e w') (hs : StoreAt w base s g b pm 0 [] []) (hbase : base ≤ w.heap.size) :
    ∃ (now : Nat) (F' : List FileS) (x y : Value), e = .returned (.tuple #[x, y]) ∧ StoreAt w' base s g b pm now F' [] ∧ OkF now F' ∧ mapN F' ≤ l.length ∧ now ≤ 1 ∧ Below base w w' ∧ SFrame w w' := by
  rcases hp with ⟨_, t, v, rfl, _, hs, hb⟩ | ⟨hc, B, F1, F', rfl, hpu, hfo, hsz, hs, hb, hfr⟩
  · exact ⟨0, [], _, _, rfl, hs, ok_none, by simp [mapN], by omega, hb.mono hbase, SFrame.of_below hb⟩
  · exact ⟨1, F', _, _, rfl, hs, ok_made ok_none (by simp) hc hpu hfo, by simpa [mapN] using hsz, by omega, hb, hfr⟩
/-- A file of a module, by its own path. -/
theorem name_join {rt p : ByteArray} (hrt : rt.data.toList ≠ []) (h : (beneathB rt p).2 = true) : joinB rt (nameP rt p) = p ∧ (nameP rt p).toList.isEmpty = false := by
  have hre : rt.toList.isEmpty = false := by
    rw [ByteArray.toList_eq, ← Bool.not_eq_true, List.isEmpty_iff]
    exact hrt
  obtain ⟨r, hr, e⟩ := (beneath_iff hrt).1 h
  have hp : p = rt ++ ⟨#[47]⟩ ++ ⟨r.toArray⟩ := ba_ext (by rw [join_data, e])
  have hn : nameP rt p = ⟨r.toArray⟩ := by
    unfold nameP beneathB
    rw [hre]
    simp only [Bool.false_eq_true, if_false]
    rw [hp, join_trim]
  rw [hn]
  refine ⟨by rw [joinB_root hre, hp], ?_⟩
  rw [ByteArray.toList_eq, ← Bool.not_eq_true, List.isEmpty_iff]
  simpa using hr
theorem alone_list {now : Nat} {F : List FileS} (hok : OkF now F) {rt p : ByteArray} (hp : p ∈ (listT now F now rt).1) : (listT now F now p).1 = [] := by
  rw [List.eq_nil_iff_forall_not_mem]
  intro q hq
  obtain ⟨h1, h2, h3⟩ := (list_mem (by omega) (Int.le_refl _)).1 hp
  obtain ⟨g1, g2, g3⟩ := (list_mem (by omega) (Int.le_refl _)).1 hq
  have hall : ∀ x, x ∈ F.map FileS.path → thereB F now x = true → x ∈ (listT now F now ⟨#[]⟩).1 := fun x hx ht => by
    refine (list_mem (by omega) (Int.le_refl _)).2 ⟨hx, beneath_root.2 ?_, ht⟩
    obtain ⟨f, hf, rfl⟩ := List.mem_map.1 hx
    exact check_nonempty (hok.paths f hf)
  have hcl := hok.valid.clash p (hall p h1 h3) q (hall q g1 g3)
  have hpe : p.toList.isEmpty = false := by
    obtain ⟨f, hf, rfl⟩ := List.mem_map.1 h1
    have := check_nonempty (hok.paths f hf)
    rw [ByteArray.toList_eq, ← Bool.not_eq_true, List.isEmpty_iff]
    intro e
    exact this (ba_ext (by rw [e]))
  have hh : hasP q (slash p) = true := by
    unfold beneathB at g2
    rw [hpe] at g2
    simp only [Bool.false_eq_true, if_false, Bool.and_eq_true] at g2
    exact g2.1
  unfold clashB at hcl
  rw [hh, Bool.or_true] at hcl
  cases hcl
theorem pull_alone {now : Nat} {F : List FileS} (hok : OkF now F) {rt p : ByteArray} (hrt : rt.data.toList ≠ []) (hp : p ∈ (listT now F now rt).1) :
    pullP now F rt (nameP rt p) = [p] ∧ checkB (joinB rt (nameP rt p)) = none ∧ ∃ d, readT now F now p = (d, 0) := by
  obtain ⟨h1, h2, h3⟩ := (list_mem (by omega) (Int.le_refl _)).1 hp
  obtain ⟨e1, e2⟩ := name_join hrt h2
  have hrd := data_there hp
  refine ⟨?_, ?_, _, hrd⟩
  · have ha : allP rt (nameP rt p) = p := by rw [allP, e2, e1]; rfl
    rw [pullP, ha, alone_list hok hp, e2, hrd]
    rfl
  · rw [e1]
    obtain ⟨f, hf, e⟩ := List.mem_map.1 h1
    rw [← e]; exact hok.paths f hf
theorem pull_whole (now : Nat) (F : List FileS) (rt : ByteArray) : pullP now F rt ⟨#[]⟩ = (listT now F now rt).1 := by
  have he : (⟨#[]⟩ : ByteArray).toList.isEmpty = true := by rw [ByteArray.toList_eq]; rfl
  have ha : allP rt ⟨#[]⟩ = rt := by rw [allP, he]; rfl
  rw [pullP, ha, he]
  simp
end Go.Proofs.YtkplkienbgoofaaGreatDoor

namespace Go.Proofs.YtkplkienbgoofaaGreatDoor
open Go.RowKit Go.Maps Go.WideMaps Go.WideAt
set_option maxRecDepth 100000 in
set_option maxHeartbeats 1000000 in
theorem version_any (j s : Nat) (v : Int) (rt : ByteArray) (ps ns : List ByteArray) (over : Bool) (w : World) {bj : Nat} (hj : JobAt w bj j s v rt ps ns over) :
    Calls Tryz.prog 18 #[.pointer (some ⟨j, 0, none⟩)] w fun e w' => e = .returned (.int .i64 v) ∧ w' = w := by
  obtain ⟨pv, nv, hb, hp, hnn⟩ := hj.rows
  have y1 : w.cell? ⟨j, 1, none⟩ = some (.int .i64 v) := by simp [World.cell?, hb]
  clear hb hp hnn hj
  go_enter Tryz.func18, Tryz.ntmps18
  go_wp2_with fail
  go_ret
  exact ⟨rfl, rfl⟩
set_option maxRecDepth 100000 in
set_option maxHeartbeats 1000000 in
theorem over_any (j s : Nat) (v : Int) (rt : ByteArray) (ps ns : List ByteArray) (w : World) {bj : Nat} (hj : JobAt w bj j s v rt ps ns true) :
    Calls Tryz.prog 49 #[.pointer (some ⟨j, 0, none⟩)] w fun e w' => e = .returned (.int .i64 160) ∧ w' = w := by
  obtain ⟨pv, nv, hb, hp, hnn⟩ := hj.rows
  have y5 : w.cell? ⟨j, 5, none⟩ = some (.bool true) := by simp [World.cell?, hb]
  clear hb hp hnn hj
  go_enter Tryz.func49, Tryz.ntmps49
  go_wp2_with fail
  go_ret
  exact ⟨rfl, rfl⟩
theorem in_any (w : World) : Calls Tryz.prog 14 #[] w fun e w' => e = .returned (.agg #[.string ⟨#[109]⟩, .string ⟨#[114]⟩, .bool false, .int .i64 0, .int .i64 0, .slice none 0 0]) ∧ Below w.heap.size w w' := by
  have hb := below_one w (.cells #[.string ⟨#[109]⟩, .string ⟨#[114]⟩, .bool false, .int .i64 0, .int .i64 0, .slice none 0 0] 36)
  go_enter Tryz.func14, Tryz.ntmps14
  go_wp2_with fail
  go_returns
  exact ⟨rfl, hb⟩
/-- A job that is set over. -/
theorem JobAt.ended {w : World} {bj j s : Nat} {v : Int} {rt : ByteArray} {ps ns : List ByteArray} {over : Bool} (h : JobAt w bj j s v rt ps ns over) : JobAt (w.setCell ⟨j, 5, none⟩ (.bool true)) bj j s v rt ps ns true := by
  obtain ⟨pv, nv, h1, h2, h3⟩ := h.rows
  have hg := grown_set w j 5 (.bool true)
  have hs : ∀ {u : Value} {xs : List Value} {n : Nat}, w.ownsRow bj 9 1 u n xs → ∀ b, u.ownBlock = some b → some j ≠ some b := fun {u xs n} ho b hb e => by
    injection e with e
    rcases ho.2 with ⟨rfl, _⟩ | ⟨m, cap, cur, rfl, _, hh, _⟩
    · simp [Value.ownBlock] at hb
    · have hm : m = b := by simpa [Value.ownBlock] using hb
      rw [hm, ← e, h1] at hh
      injection hh with hh
      injection hh with _ hh
      exact absurd hh (by decide)
  exact ⟨h.hj, h.len, pv, nv, by rw [heap_setCell_same w j 5 _ _ _ h1]; rfl, own_kept h2 hg (hs h2), own_kept h3 hg (hs h3)⟩
theorem path_ra : checkB ⟨#[114, 47, 97]⟩ = none := by kernel_rfl
theorem beneath_ra : beneathB ⟨#[114]⟩ ⟨#[114, 47, 97]⟩ = (⟨#[97]⟩, true) := by kernel_rfl
theorem pull_ra (v dv : Value) : pullP 1 [⟨⟨#[114, 47, 97]⟩, v, [⟨((0 + 1 : Nat) : Int), dv, [120], false⟩]⟩] ⟨#[114]⟩ ⟨#[]⟩ = [⟨#[114, 47, 97]⟩] := by
  rw [pull_whole, listT, if_neg (by omega)]
  have h : listedB [⟨⟨#[114, 47, 97]⟩, v, [⟨((0 + 1 : Nat) : Int), dv, [120], false⟩]⟩] ((1 : Nat) : Int) ⟨#[114]⟩ ⟨#[114, 47, 97]⟩ = true := by
    rw [listedB, beneath_ra]
    rfl
  show sortB (([⟨⟨#[114, 47, 97]⟩, v, [⟨((0 + 1 : Nat) : Int), dv, [120], false⟩]⟩] : List FileS).map FileS.path |>.filter _) = _
  rw [List.map_cons, List.map_nil, List.filter_cons, if_pos h]
  simp [sortB]
set_option maxRecDepth 100000 in
set_option maxHeartbeats 4000000 in
theorem gives_any (w : World) (hg : EnvM w) : Calls Tryz.prog 9 #[] w fun e w' => e = .returned (.bool true) ∧ Below w.heap.size w w' := by
  have HG := Lib.hid hg
  have vx := fun (W : World) (g : Nat) (hg : g = W.heap.size) => Joins.run_convert_bytes_const_at (P := Tryz.prog) W 59 5 #[.int .u8 120] 1 1 g hg Tryz.underlying59 Tryz.underlying5
  clear hg
  go_enter Tryz.func9, Tryz.ntmps9
  go_wp2_with fail
  refine (new_store w).mono ?_
  rintro e w1 ⟨s, g, b, pm, rfl, hs1, hb1⟩
  have HS1 := Lib.hid hs1
  have HB1 := Lib.hid hb1
  clear hs1 hb1
  go_wp2_with fail
  refine (slit_commit s g b pm 0 120 ⟨#[114, 47, 97]⟩ [] [] w1 (base := w.heap.size) (by omega) path_ra (by decide) (fun f hf => by cases hf) (by simp) (by simp [mapN]) (by omega) (rise_none _) HS1.out HB1.out.size (HG.out.below HB1.out)).mono ?_
  rintro e w2 ⟨v1, dv1, F1, rfl, hf1, hs2, hb2⟩
  have hput1 : putS [] ⟨#[114, 47, 97]⟩ v1 ⟨((0 + 1 : Nat) : Int), dv1, [((120 : Nat) : Int)], false⟩ = [⟨⟨#[114, 47, 97]⟩, v1, [⟨((0 + 1 : Nat) : Int), dv1, [120], false⟩]⟩] := rfl
  rw [hput1] at hf1
  obtain ⟨w1v, rfl⟩ := forgot_one hf1 (look_rows1 dv1) (by simp)
  have HS2 := Lib.hid hs2
  have HB2 := Lib.hid (HB1.out.trans hb2)
  have hbs2 : w.heap.size ≤ w2.heap.size := HB2.out.size
  have HPU := Lib.hid (pull_ra w1v dv1)
  have hr1 : readV 1 [⟨⟨#[114, 47, 97]⟩, w1v, [⟨((0 + 1 : Nat) : Int), dv1, [120], false⟩]⟩] ([] ++ [((0 + 1 : Nat) : Int)]) 1 ⟨#[114, 47, 97]⟩ = ([120], 0) := rfl
  have hri : RiseF ((0 + 1 : Nat) : Int) [⟨⟨#[114, 47, 97]⟩, w1v, [⟨((0 + 1 : Nat) : Int), dv1, [120], false⟩]⟩] := fun f hf => by
    rw [List.mem_singleton.1 hf]
    exact ⟨by simp [Rising], fun r hr => by rw [List.mem_singleton.1 hr]; simp⟩
  have hmn : mapN [⟨⟨#[114, 47, 97]⟩, w1v, [⟨((0 + 1 : Nat) : Int), dv1, [120], false⟩]⟩] = 1 := rfl
  obtain ⟨F1, hF1⟩ : ∃ F1 : List FileS, F1 = [⟨⟨#[114, 47, 97]⟩, w1v, [⟨((0 + 1 : Nat) : Int), dv1, [120], false⟩]⟩] := ⟨_, rfl⟩
  rw [← hF1] at HS2 HPU hr1 hri hmn
  have HR1 := Lib.hid hr1
  have HRI := Lib.hid hri
  clear hs2 hb2 hf1 hput1 hr1 hri hF1
  go_wp2_with fail
  refine (in_any w2).mono ?_
  rintro e w2b ⟨rfl, hb2b⟩
  have HS2B := Lib.hid (HS2.out.below hb2b)
  have HB2B := Lib.hid (below_from HB2.out hb2b)
  have hbs2b : w.heap.size ≤ w2b.heap.size := HB2B.out.size
  clear hb2b
  go_wp2_with fail
  refine (pull_new s g b pm (0 + 1) F1 [] ⟨#[109]⟩ ⟨#[114]⟩ ⟨#[]⟩ false 0 0 (.slice none 0 0) w2b (base := w.heap.size) (by simp) (by omega) (by omega) (by decide) (by decide) (.inl (by rw [ByteArray.toList_eq]; rfl)) hbs2b HS2B.out (HG.out.below HB2B.out)).mono ?_
  rintro e w3 (⟨h64, _⟩ | ⟨_, j, rfl, hs3, hj3, hb3, hf3⟩)
  · cases h64
  rw [HPU.out] at hj3
  have hnm : ([⟨#[114, 47, 97]⟩] : List ByteArray).map (nameP ⟨#[114]⟩) = [⟨#[97]⟩] := by rw [List.map_cons, List.map_nil, nameP, beneath_ra]
  rw [hnm] at hj3
  have HS3 := Lib.hid hs3
  have HJ3 := Lib.hid hj3
  have HB3 := Lib.hid (HB2B.out.trans hb3)
  have hbs3 : w.heap.size ≤ w3.heap.size := HB3.out.size
  clear hs3 hj3 hb3 hf3 hnm HPU
  go_wp2_with fail
  refine (version_any j s _ _ _ _ _ w3 HJ3.out).mono ?_
  rintro e w' ⟨rfl, h'⟩
  replace h' := h'.symm
  subst h'
  go_wp2_with fail
  refine (again_any j s g b pm (0 + 1) ((0 + 1 : Nat) : Int) 0 ⟨#[114]⟩ [⟨#[114, 47, 97]⟩] [⟨#[97]⟩] F1 ([] ++ [((0 + 1 : Nat) : Int)]) w3 (base := w.heap.size) [120] 0 0 (by simp) rfl (by simp) (by decide) (by decide) (by omega) HJ3.out HS3.out HR1.out).mono ?_
  rintro e w4 ⟨A4, c4, rfl, hcv, hb4⟩
  have HCV := Lib.hid hcv
  have HS4 := Lib.hid (HS3.out.below hb4)
  have HJ4 := Lib.hid (HJ3.out.below hb4)
  have HB4 := Lib.hid (below_from HB3.out hb4)
  clear hcv hb4
  go_wp2_with fail
  refine (names_any j s _ _ _ [⟨#[97]⟩] _ w4 (by simp) HJ4.out).mono ?_
  rintro e w5 ⟨A5, c5, rfl, _, _, htx, hb5⟩
  obtain ⟨ad, rfl, hT⟩ := htx (by simp)
  have x0 : w5.cell? ad = some (.string ⟨#[97]⟩) := by
    have := hT 0 (by simp)
    rw [show ad.add 0 = ad by simp [Addr.add]] at this
    exact this
  have cv1 : (convert 59 9 (.slice A4 1 c4)).run Tryz.prog w5 = .ok (.string (strOfNums [120])) w5 := HCV.out w5 hb5
  rw [show strOfNums [120] = (⟨#[120]⟩ : ByteArray) by rfl] at cv1
  have HS5 := Lib.hid (HS4.out.below hb5)
  have HJ5 := Lib.hid (HJ4.out.below hb5)
  have HB5 := Lib.hid (below_from HB4.out hb5)
  have hbs5 : w.heap.size ≤ w5.heap.size := HB5.out.size
  clear hb5 htx hT
  go_wp2_with fail
  have hjb : w.heap.size ≤ j := Nat.le_trans hbs2b HJ5.out.hj
  refine (end_any j s g b pm (0 + 1) ((0 + 1 : Nat) : Int) _ _ _ F1 ([] ++ [((0 + 1 : Nat) : Int)]) w5 (base := w.heap.size) hbs2b (by decide) (by simp) (by omega) (by omega) HRI.out hbs5 HJ5.out HS5.out).mono ?_
  rintro e w6 (⟨hno, _⟩ | ⟨_, F2, rfl, _, _, _, hs6, hb6, hf6⟩)
  · exact absurd (by simp) hno
  have HJ6 := Lib.hid (HJ5.out.ended.frame hf6)
  have hls : ([] ++ [((0 + 1 : Nat) : Int)] : List Int).erase ((0 + 1 : Nat) : Int) = [] := rfl
  rw [hls] at hs6
  have HS6 := Lib.hid hs6
  have HB6 := Lib.hid ((HB5.out.setCell (p := ⟨j, 5, none⟩) hjb (.bool true)).trans hb6)
  clear hs6 hb6 hf6 hls cv1 x0
  go_wp2_with fail
  refine (over_any j s _ _ _ _ w6 HJ6.out).mono ?_
  rintro e w' ⟨rfl, h'⟩
  replace h' := h'.symm
  subst h'
  go_wp2_with fail
  refine (pinned_any s g b pm (0 + 1) F2 [] w6 (base := w.heap.size) (by simp) HS6.out).mono ?_
  rintro e w7 ⟨A7, c7, K, rfl, _, hK, _, hb7⟩
  have hK0 : K.length = 0 := by simpa using hK
  rw [hK0]
  have HB7 := Lib.hid (below_from HB6.out hb7)
  clear hb7 hK
  go_wp2_with fail
  go_ret
  exact ⟨rfl, HB7.out⟩
end Go.Proofs.YtkplkienbgoofaaGreatDoor

namespace Go.Proofs.YtkplkienbgoofaaGreatDoor
open Go.RowKit Go.Maps Go.WideMaps Go.WideAt
theorem sortB_sorted (l : List ByteArray) : (sortB l).Pairwise fun a b => decide (a.data.toList ≤ b.data.toList) = true := by
  unfold sortB
  rw [List.pairwise_map]
  have h := List.pairwise_mergeSort (le := fun x y : List UInt8 => decide (x ≤ y)) (fun a b c h1 h2 => by simp only [decide_eq_true_eq] at *; exact List.le_trans h1 h2) (fun a b => by simp only [Bool.or_eq_true, decide_eq_true_eq]; exact List.le_total a b) (l.map fun s => s.data.toList)
  exact h.imp (fun {a b} hab => by simpa using hab)
theorem sortB_self {l : List ByteArray} (h : l.Pairwise fun a b => decide (a.data.toList ≤ b.data.toList) = true) : sortB l = l := by
  unfold sortB
  have h2 : (l.map fun s => s.data.toList).Pairwise fun x y => decide (x ≤ y) = true := by
    rw [List.pairwise_map]
    exact h
  rw [List.mergeSort_of_pairwise h2, List.map_map]
  conv => rhs; rw [← List.map_id l]
  exact List.map_congr_left (fun x _ => by cases x; simp)
theorem sortB_filter (X : List ByteArray) (q : ByteArray → Bool) : (sortB X).filter q = sortB (X.filter q) := by
  have h1 := sortB_self ((sortB_sorted X).filter q)
  rw [← h1]
  exact sortB_perm ((sortB_sub X).filter q)
/-- The files that are wanted, out of all. -/
def wantP (now : Nat) (F : List FileS) (rt root : ByteArray) : List ByteArray := ((listT now F now ⟨#[]⟩).1).filter fun p => (beneathB rt p).2 && ((beneathB (allP rt root) p).2 || (!root.toList.isEmpty && p.toList == (allP rt root).toList))
theorem nonempty_of {rt : ByteArray} (h : rt.data.toList ≠ []) : rt.toList.isEmpty = false := by
  rw [ByteArray.toList_eq, ← Bool.not_eq_true, List.isEmpty_iff]
  exact h
theorem want_pull {now : Nat} {F : List FileS} (hok : OkF now F) (ho : (F.map FileS.path).Nodup) {rt root : ByteArray} (hrt : rt.data.toList ≠ []) (hck : root.toList.isEmpty = true ∨ checkB (joinB rt root) = none) : wantP now F rt root = pullP now F rt root := by
  have hne : ∀ p ∈ F.map FileS.path, (beneathB ⟨#[]⟩ p).2 = true := fun p hp => by
    obtain ⟨f, hf, rfl⟩ := List.mem_map.1 hp
    exact beneath_root.2 (check_nonempty (hok.paths f hf))
  have hl0 : ∀ root, (listT now F now root).1 = sortB ((F.map FileS.path).filter (listedB F now root)) := fun root => by rw [listT, if_neg (by omega)]
  rw [wantP, hl0, sortB_filter, List.filter_filter]
  cases he : root.toList.isEmpty with
  | true =>
    have ha : allP rt root = rt := by rw [allP, he]; rfl
    rw [pullP, ha, he, hl0]
    simp only [Bool.not_true, Bool.false_and, Bool.or_false, Bool.and_self, Bool.false_eq_true, if_false, List.append_nil]
    congr 1
    refine List.filter_congr (fun p hp => ?_)
    rw [listedB, listedB, hne p hp, Bool.true_and]
  | false =>
    have ha : allP rt root = joinB rt root := by rw [allP, he]; rfl
    have hc : checkB (joinB rt root) = none := hck.elim (fun h => by rw [he] at h; cases h) id
    have hre := nonempty_of hrt
    have hroot : root.data.toList ≠ [] := by
      rw [ByteArray.toList_eq, ← Bool.not_eq_true, List.isEmpty_iff] at he
      exact he
    have hjd : (joinB rt root).data.toList = rt.data.toList ++ 47 :: root.data.toList := by rw [joinB_root hre, join_data]
    have hjne : (joinB rt root).data.toList ≠ [] := by rw [hjd]; simp
    have hb1 : ∀ p, (beneathB (joinB rt root) p).2 = true → (beneathB rt p).2 = true := fun p hp => by
      obtain ⟨r, hr, e⟩ := (beneath_iff hjne).1 hp
      exact (beneath_iff hrt).2 ⟨root.data.toList ++ 47 :: r, by simp, by rw [e, hjd]; simp⟩
    have hb2 : (beneathB rt (joinB rt root)).2 = true := (beneath_iff hrt).2 ⟨root.data.toList, hroot, hjd⟩
    have hsame : ∀ p : ByteArray, (p.toList == (joinB rt root).toList) = decide (p = joinB rt root) := fun p => by
      by_cases e : p = joinB rt root
      · subst e; simp
      · rw [text_eq_false e, decide_eq_false e]
    rw [pullP, ha, he, hl0]
    by_cases hin : joinB rt root ∈ F.map FileS.path ∧ thereB F now (joinB rt root) = true
    · obtain ⟨hm, ht⟩ := hin
      have hlist : joinB rt root ∈ (listT now F now rt).1 := (list_mem (by omega) (Int.le_refl _)).2 ⟨hm, hb2, ht⟩
      have hal := alone_list hok hlist
      rw [hl0] at hal
      have hrd : (readT now F now (joinB rt root)).2 = 0 := by rw [data_there hlist]
      rw [hal, hrd]
      have hnb : ∀ p ∈ F.map FileS.path, thereB F now p = true → (beneathB (joinB rt root) p).2 = false := fun p hp hth => by
        cases hbb : (beneathB (joinB rt root) p).2 with
        | false => rfl
        | true =>
          have : p ∈ (listT now F now (joinB rt root)).1 := (list_mem (by omega) (Int.le_refl _)).2 ⟨hp, hbb, hth⟩
          rw [alone_list hok hlist] at this
          cases this
      have hf : (F.map FileS.path).filter (fun p => ((beneathB rt p).2 && ((beneathB (joinB rt root) p).2 || (!false && p.toList == (joinB rt root).toList))) && listedB F now ⟨#[]⟩ p) = (F.map FileS.path).filter (fun p => decide (p = joinB rt root)) := List.filter_congr (fun p hp => by
        rw [hsame, listedB, hne p hp]
        by_cases e : p = joinB rt root
        · subst e
          rw [hb2, ht]
          simp
        · cases hth : thereB F now p with
          | false => simp [e]
          | true => rw [hnb p hp hth]; simp [e])
      rw [hf]
      have hone : (F.map FileS.path).filter (fun p => decide (p = joinB rt root)) = [joinB rt root] := by
        generalize F.map FileS.path = X at hm ho
        induction X with
        | nil => cases hm
        | cons a t ih =>
          rw [List.nodup_cons] at ho
          rw [List.filter_cons]
          by_cases e : a = joinB rt root
          · rw [if_pos (by simp [e])]
            have : t.filter (fun p => decide (p = joinB rt root)) = [] := List.filter_eq_nil_iff.2 (fun p hp => by
              simp only [decide_eq_true_eq]
              intro e2
              exact ho.1 (by rw [e, ← e2]; exact hp))
            rw [this, e]
          · rw [if_neg (by simp [e])]
            refine ih ?_ ho.2
            rcases List.mem_cons.1 hm with h | h
            · exact absurd h.symm e
            · exact h
      rw [hone]
      simp [sortB]
    · have hrd : ¬ (readT now F now (joinB rt root)).2 = 0 := fun h0 => by
        apply hin
        have hth : thereB F now (joinB rt root) = true := by
          cases hth : thereB F now (joinB rt root) with
          | true => rfl
          | false =>
            have := (read_zero (now := now) (F := F) (v := now) (p := joinB rt root) (by omega) (Int.le_refl _)).2 hth
            rw [this] at h0
            cases h0
        refine ⟨?_, hth⟩
        unfold thereB at hth
        cases hr : atRow F now (joinB rt root) with
        | none => rw [hr] at hth; cases hth
        | some r =>
          unfold atRow at hr
          cases hf : fileOf F (joinB rt root) with
          | none => rw [hf] at hr; cases hr
          | some f => exact List.mem_map.2 ⟨f, (file_mem hf).1, (file_mem hf).2⟩
      rw [decide_eq_false hrd]
      simp only [Bool.not_false, Bool.and_false, Bool.false_eq_true, if_false, List.append_nil]
      congr 1
      refine List.filter_congr (fun p hp => ?_)
      rw [hsame, listedB, listedB, hne p hp, Bool.true_and]
      by_cases e : p = joinB rt root
      · subst e
        have : thereB F now (joinB rt root) = false := by
          cases hth : thereB F now (joinB rt root) with
          | false => rfl
          | true => exact absurd ⟨hp, hth⟩ hin
        rw [this]
        simp
      · rw [decide_eq_false e]
        cases hbb : (beneathB (joinB rt root) p).2 with
        | false => simp
        | true => rw [hb1 p hbb]; simp
end Go.Proofs.YtkplkienbgoofaaGreatDoor

namespace Go.Proofs.YtkplkienbgoofaaGreatDoor
open Go.RowKit Go.Maps Go.WideMaps Go.WideAt
set_option maxRecDepth 100000 in
set_option maxHeartbeats 2000000 in
theorem pull_bad (s : Nat) (nm rt root : ByteArray) (wr : Bool) (sl qu : Int) (us : Value) (q : Nat) (w : World) (hrt : rt.size ≤ 1000) (hro : root.size ≤ 1000) (he : root.toList.isEmpty = false) (hbad : checkB (joinB rt root) = some q) (hg : EnvM w) :
    Calls Tryz.prog 13 #[.pointer (some ⟨s, 0, none⟩), .agg #[.string nm, .string rt, .bool wr, .int .i64 sl, .int .i64 qu, us], .string root] w fun e w' => e = .returned (.tuple #[.pointer none, .iface 40 (.int .i64 90)]) ∧ Below w.heap.size w w' := by
  have hb0 := below_one w (.cells #[.string nm, .string rt, .bool wr, .int .i64 sl, .int .i64 qu, us] 36)
  have HB0 := Lib.hid (hb0.mono (Nat.le_refl _))
  have HG0 := Lib.hid (hg.below hb0)
  have HJ := Lib.hid hbad
  have hnew := heap_alloc_new w (.cells #[.string nm, .string rt, .bool wr, .int .i64 sl, .int .i64 qu, us] 36)
  have y0 : (w.alloc (.cells #[.string nm, .string rt, .bool wr, .int .i64 sl, .int .i64 qu, us] 36)).cell? ⟨w.heap.size, 1, none⟩ = some (.string rt) := by rw [World.cell?_alloc_at _ _ _ _ rfl]; rfl
  clear hb0 hg hbad hnew
  go_enter Tryz.func13, Tryz.ntmps13
  go_wp2_with fail
  refine (join_bad rt root q _ (by omega) (by omega) (by omega) HG0.out HJ.out).mono ?_
  rintro e w2 ⟨f, rfl, hft, hb2⟩
  have HB2 := Lib.hid (below_from HB0.out hb2)
  clear hft hb2
  go_wp2_with fail
  go_ret2
  exact ⟨rfl, HB2.out⟩
end Go.Proofs.YtkplkienbgoofaaGreatDoor

namespace Go.Proofs.YtkplkienbgoofaaGreatDoor
open Go.RowKit Go.Maps Go.WideMaps Go.WideAt
/-- What is said at the beginning: its cells. -/
structure WordIs (cs : Array Value) (v : Int) (u : Value) : Prop where
  size : cs.size = 91
  one : cs.all (·.oneCell') = true
  kind : cs[0]? = some (.int .i64 16)
  num : cs[1]? = some (.int .i64 v)
  paths : cs[3]? = some u
def wordCells (v : Int) (u : Value) : Array Value := #[.int .i64 16, .int .i64 v, .string ⟨#[]⟩, u, .int .u8 0, .int .u8 0, .int .u8 0, .int .u8 0, .int .u8 0, .int .u8 0, .int .u8 0, .int .u8 0, .int .u8 0, .int .u8 0, .int .u8 0, .int .u8 0, .int .u8 0, .int .u8 0, .int .u8 0, .int .u8 0, .int .u8 0, .int .u8 0, .int .u8 0, .int .u8 0, .int .u8 0, .int .u8 0, .int .u8 0, .int .u8 0, .int .u8 0, .int .u8 0, .int .u8 0, .int .u8 0, .int .u8 0, .int .u8 0, .int .u8 0, .int .u8 0, .int .u8 0, .int .u8 0, .int .u8 0, .int .u8 0, .int .u8 0, .int .u8 0, .int .u8 0, .int .u8 0, .int .u8 0, .int .u8 0, .int .u8 0, .int .u8 0, .int .u8 0, .int .u8 0, .int .u8 0, .int .u8 0, .slice none 0 0, .int .i64 0, .int .i64 0, .int .i64 0, .slice none 0 0, .slice none 0 0, .int .i64 0, .int .u8 0, .int .u8 0, .int .u8 0, .int .u8 0, .int .u8 0, .int .u8 0, .int .u8 0, .int .u8 0, .int .u8 0, .int .u8 0, .int .u8 0, .int .u8 0, .int .u8 0, .int .u8 0, .int .u8 0, .int .u8 0, .int .u8 0, .int .u8 0, .int .u8 0, .int .u8 0, .int .u8 0, .int .u8 0, .int .u8 0, .int .u8 0, .int .u8 0, .int .u8 0, .int .u8 0, .int .u8 0, .int .u8 0, .int .u8 0, .int .u8 0, .int .u8 0]
theorem wordIs (v : Int) (A : Option Addr) (n c : Nat) : WordIs (wordCells v (.slice A n c)) v (.slice A n c) := ⟨rfl, by kernel_rfl, rfl, rfl, rfl⟩
theorem below_cells_at (b : Nat) : ∀ (vs : List Value) (o : Nat) (w : World), Below b w (w.setCells b o vs)
  | [], _, w => Below.refl b w
  | v :: r, o, w => ((Below.refl b w).setCell (p := ⟨b, o, none⟩) (Nat.le_refl _) v).trans (below_cells_at b r (o + 1) _)
theorem result_cell {fn : Func} {a : Tmp} {ty : TypeId} (h : fn.results = #[.cell a ty]) (tmps : Array Value) (P : Program) (w : World) {ad : Addr} {v : Value} (ha : tmps.getD a undef = .pointer (some ad))
    (hl : (loadVar ty ad).run P w = .ok v w) : (results fn tmps).run P w = .ok v w := by
  have ha' : tmps[a]?.getD undef = .pointer (some ad) := by simpa using ha
  have e : (results fn tmps).run P w = (do let u ← loadVar ty ad; pure u : Sem Value).run P w := by
    simp [results, h, ha', asAddr]
  rw [e]
  simpa using hl
/-- A row of one's own stays when another block is written. -/
theorem own_apart {w : World} {base b n : Nat} {t : TypeId} {v : Value} {xs : List Value} (h : w.ownsRow base t 1 v n xs) (hb : b < base) (vs : List Value) (o : Nat) : (w.setCells b o vs).ownsRow base t 1 v n xs := by
  obtain ⟨h1, h2, h3, h4⟩ := YtkplkienbgoofaaGreatDoorW.PrintWords.setCells_same b vs o w
  have hk : w.grownBy (w.setCells b o vs) (some b) := ⟨h1, h2, h3, by rw [h4]; exact Nat.le_refl _, fun k _ hne => YtkplkienbgoofaaGreatDoorW.PrintWords.setCells_far vs o k (fun e => hne (by rw [e]))⟩
  refine h.kept hk ?_
  cases hv : v.ownBlock with
  | none => exact .inl rfl
  | some c =>
    refine .inr (fun e => ?_)
    injection e with e
    have := (h.lt c hv).1
    omega
theorem zero_there {w : World} {b : Nat} {cs : Array Value} {t : TypeId} {n : Nat} (h : w.heap[b]? = some (.cells cs t (0, 0))) (hn : cs.size = n) : w.there b 0 n := fun k hk => ⟨by
  rw [cell_of_row w _ _ _ _ _ h, Nat.zero_add, Array.getElem?_eq_getElem (by omega)]
  rfl, frozen_of_row w _ _ _ _ h⟩
theorem word_zero : Tryz.zeroCells67.size = 91 := by kernel_rfl
theorem word_info : (Tryz.prog.info? 67).map (·.size) = some 91 := by kernel_rfl
/-- A word is laid into a place of zeros. -/
theorem word_laid {w2 : World} {b : Nat} (v : Int) (A : Option Addr) (n c : Nat) (h : w2.heap[b]? = some (.cells Tryz.zeroCells67 67 (0, 0))) :
    w2.there b 0 (wordCells v (.slice A n c)).size ∧ (loadVar 67 ⟨b, 0, none⟩).run Tryz.prog (w2.setCells b 0 (wordCells v (.slice A n c)).toList) = .ok (.agg (wordCells v (.slice A n c))) (w2.setCells b 0 (wordCells v (.slice A n c)).toList) := by
  have ht : w2.there b 0 91 := zero_there h word_zero
  refine ⟨ht, ?_⟩
  have := run_loadVar_mid (P := Tryz.prog) (w2.setCells b 0 (wordCells v (.slice A n c)).toList) b 0 67 (wordCells v (.slice A n c)).toList _ (World.rangeAt_setCells_same w2 b 0 _ ht) Tryz.underlying67 (by kernel_rfl) (by kernel_rfl)
  rw [Array.toArray_toList] at this
  exact this
/-- A word that is had, laid into a new place. -/
theorem word_put (w : World) {cs : Array Value} {v : Int} {u : Value} (h : WordIs cs v u) :
    (w.alloc (Obj.cells Tryz.zeroCells67 67)).there w.heap.size 0 cs.size ∧
    Below w.heap.size w ((w.alloc (Obj.cells Tryz.zeroCells67 67)).setCells w.heap.size 0 cs.toList) ∧
    ((w.alloc (Obj.cells Tryz.zeroCells67 67)).setCells w.heap.size 0 cs.toList).cell? ⟨w.heap.size, 0, none⟩ = some (.int .i64 16) ∧
    ((w.alloc (Obj.cells Tryz.zeroCells67 67)).setCells w.heap.size 0 cs.toList).cell? ⟨w.heap.size, 1, none⟩ = some (.int .i64 v) ∧
    ((w.alloc (Obj.cells Tryz.zeroCells67 67)).setCells w.heap.size 0 cs.toList).cell? ⟨w.heap.size, 3, none⟩ = some u := by
  have hn := heap_alloc_new w (Obj.cells Tryz.zeroCells67 67)
  have ht : (w.alloc (Obj.cells Tryz.zeroCells67 67)).there w.heap.size 0 cs.size := by rw [h.size]; exact zero_there hn word_zero
  have hr := World.rangeAt_setCells_same _ w.heap.size 0 cs.toList (by simpa using ht)
  refine ⟨ht, (below_one w _).trans (below_cells_at _ _ _ _), ?_, ?_, ?_⟩
  · have := hr 0 (.int .i64 16) (by simpa using h.kind)
    simpa using this
  · have := hr 1 (.int .i64 v) (by simpa using h.num)
    simpa using this
  · have := hr 3 u (by simpa using h.paths)
    simpa using this
set_option maxRecDepth 100000 in
set_option maxHeartbeats 1000000 in
theorem word_any (j s : Nat) (v : Int) (rt : ByteArray) (ps ns : List ByteArray) (over : Bool) (w : World) {bj : Nat} (hn : ns.length ≤ 100000) (hj : JobAt w bj j s v rt ps ns over) :
    Calls Tryz.prog 23 #[.pointer (some ⟨j, 0, none⟩)] w fun e w' => ∃ cs A c, e = .returned (.agg cs) ∧ WordIs cs v (.slice A ns.length c) ∧ ns.length ≤ c ∧ TextRow w' A ns ∧ Below w.heap.size w w' := by
  have HJ := Lib.hid hj
  clear hj
  go_enter Tryz.func23, Tryz.ntmps23
  go_upto_region 1 with fail
  refine wp_region_any (by kernel_rfl) ?_
  change wpAny _ _ _ _ _ _ _ (World.drew _)
  have hbX : Below w.heap.size w (w.alloc (Obj.cells Tryz.zeroCells67 67)).drew := (below_one w _).drew
  have hnX : (w.alloc (Obj.cells Tryz.zeroCells67 67)).drew.heap[w.heap.size]? = some (Obj.cells Tryz.zeroCells67 67) := heap_alloc_new w _
  generalize World.drew _ = X0 at *
  have HJ0 := Lib.hid (HJ.out.below hbX)
  obtain ⟨pv, nv, hb0, _, _⟩ := HJ0.out.rows
  have y1 : X0.cell? ⟨j, 1, none⟩ = some (.int .i64 v) := by simp [World.cell?, hb0]
  have HNX := Lib.hid hnX
  clear hb0 hnX
  refine wpAny_take (i := 0) (v := ?_) rfl (by kernel_rfl) (by kernel_rfl) (by kernel_rfl) (fun _ _ _ h => h) (Or.inl ⟨by kernel_rfl, ?hy⟩) ?_
  case hy => (intro w'; go_simp; try with_reducible rfl)
  try simp only [Act.put, List.setIfInBounds_toArray, List.set_cons_zero, List.set_cons_succ, List.getElem_toArray, List.getElem_cons_zero, List.getElem_cons_succ]
  refine wpAny_take (i := 1) (v := ?_) rfl (by kernel_rfl) (by kernel_rfl) (by kernel_rfl) (fun _ _ _ h => h) (Or.inl ⟨by kernel_rfl, ?hy⟩) ?_
  case hy => (intro w'; go_simp; try with_reducible rfl)
  try simp only [Act.put, List.setIfInBounds_toArray, List.set_cons_zero, List.set_cons_succ, List.getElem_toArray, List.getElem_cons_zero, List.getElem_cons_succ]
  refine wpAny_take (i := 2) (v := ?_) rfl (by kernel_rfl) (by kernel_rfl) (by kernel_rfl) (fun _ _ _ h => h) (Or.inl ⟨by kernel_rfl, ?hy⟩) ?_
  case hy => (intro w'; go_simp; try with_reducible rfl)
  try simp only [Act.put, List.setIfInBounds_toArray, List.set_cons_zero, List.set_cons_succ, List.getElem_toArray, List.getElem_cons_zero, List.getElem_cons_succ]
  refine wpAny_take (i := 4) (v := ?_) rfl (by kernel_rfl) (by kernel_rfl) (by kernel_rfl) (fun _ _ _ h => h) (Or.inl ⟨by kernel_rfl, ?hy⟩) ?_
  case hy => (intro w'; go_simp; try with_reducible rfl)
  try simp only [Act.put, List.setIfInBounds_toArray, List.set_cons_zero, List.set_cons_succ, List.getElem_toArray, List.getElem_cons_zero, List.getElem_cons_succ]
  refine wpAny_ready (rs := [3, 5]) (by kernel_rfl) (by simp) ?_
  refine AllReady.cons rfl (fun K hK => ?_) (AllReady.cons rfl (fun K hK => ?_) AllReady.nil)
  case refine_1 =>
    go_simp
    refine hK _ _ ?_
    clear hK K
    try simp only [Act.put, List.setIfInBounds_toArray, List.set_cons_zero, List.set_cons_succ, List.getElem_toArray, List.getElem_cons_zero, List.getElem_cons_succ]
    refine wpAny_ready (rs := [5]) (by kernel_rfl) (by simp) ?_
    refine AllReady.cons rfl (fun K hK => ?_) AllReady.nil
    go_simp
    refine (names_any j s _ _ _ ns _ X0 hn HJ0.out).mono ?_
    rintro e w2 ⟨A, c, rfl, hc, hoN, _, hb2⟩
    have y2 := cell_below hb2 y1
    go_wp2_with fail
    try simp only [Act.put, List.setIfInBounds_toArray, List.set_cons_zero, List.set_cons_succ, List.getElem_toArray, List.getElem_cons_zero, List.getElem_cons_succ]
    refine wpAny_take (i := 6) (v := ?_) rfl (by kernel_rfl) (by kernel_rfl) (by kernel_rfl) (fun _ _ _ h => h) (Or.inl ⟨by kernel_rfl, ?hy⟩) ?_
    case hy => (intro w'; go_simp; try with_reducible rfl)
    try simp only [Act.put, List.setIfInBounds_toArray, List.set_cons_zero, List.set_cons_succ, List.getElem_toArray, List.getElem_cons_zero, List.getElem_cons_succ]
    refine wpAny_ready (rs := [7]) (by kernel_rfl) (by simp) ?_
    refine AllReady.cons rfl (fun K hK => ?_) AllReady.nil
    rw [if_pos (by kernel_rfl)]
    obtain ⟨hth, hld⟩ := word_laid v A ns.length c ((hb2.block _ (lt_of_block HNX.out)).trans HNX.out)
    refine wp_store_mid 67 (.tmp 2) (.tmp 9) rfl w.heap.size 0 (wordCells v (.slice A ns.length c)) (by kernel_rfl) (by kernel_rfl) hth (by kernel_rfl) (by kernel_rfl) ?_
    have hb4 : Below w.heap.size w (w2.setCells w.heap.size 0 (wordCells v (.slice A ns.length c)).toList) := (below_from hbX hb2).trans (below_cells_at _ _ _ _)
    have HLD := Lib.hid hld
    obtain ⟨A', c', e4, _, ht4'⟩ := own_row (own_apart hoN (lt_of_block HNX.out) (wordCells v (.slice A ns.length c)).toList 0)
    injection e4 with e5 _ e6
    subst e5 e6
    have ht4 := Lib.hid ht4'
    clear ht4' hoN
    refine hK _ _ ?_
    clear hK K hld hth
    generalize w2.setCells w.heap.size 0 (wordCells v (.slice A ns.length c)).toList = W4 at *
    refine wpAny_done (by kernel_rfl) ?_ _
    go_wp2_with fail
    exact bodyPost_ret (result_cell rfl _ _ _ rfl HLD.out) rfl ⟨_, rfl, A, c, wordIs v A ns.length c, hc, ht4.out, hb4⟩
  case refine_2 =>
    go_simp
    refine (names_any j s _ _ _ ns _ X0 hn HJ0.out).mono ?_
    rintro e w2 ⟨A, c, rfl, hc, hoN, _, hb2⟩
    have y2 := cell_below hb2 y1
    go_wp2_with fail
    try simp only [Act.put, List.setIfInBounds_toArray, List.set_cons_zero, List.set_cons_succ, List.getElem_toArray, List.getElem_cons_zero, List.getElem_cons_succ]
    refine wpAny_ready (rs := [3]) (by kernel_rfl) (by simp) ?_
    refine AllReady.cons rfl (fun K hK => ?_) AllReady.nil
    go_simp
    refine hK _ _ ?_
    clear hK K
    try simp only [Act.put, List.setIfInBounds_toArray, List.set_cons_zero, List.set_cons_succ, List.getElem_toArray, List.getElem_cons_zero, List.getElem_cons_succ]
    refine wpAny_take (i := 6) (v := ?_) rfl (by kernel_rfl) (by kernel_rfl) (by kernel_rfl) (fun _ _ _ h => h) (Or.inl ⟨by kernel_rfl, ?hy⟩) ?_
    case hy => (intro w'; go_simp; try with_reducible rfl)
    try simp only [Act.put, List.setIfInBounds_toArray, List.set_cons_zero, List.set_cons_succ, List.getElem_toArray, List.getElem_cons_zero, List.getElem_cons_succ]
    refine wpAny_ready (rs := [7]) (by kernel_rfl) (by simp) ?_
    refine AllReady.cons rfl (fun K hK => ?_) AllReady.nil
    rw [if_pos (by kernel_rfl)]
    obtain ⟨hth, hld⟩ := word_laid v A ns.length c ((hb2.block _ (lt_of_block HNX.out)).trans HNX.out)
    refine wp_store_mid 67 (.tmp 2) (.tmp 9) rfl w.heap.size 0 (wordCells v (.slice A ns.length c)) (by kernel_rfl) (by kernel_rfl) hth (by kernel_rfl) (by kernel_rfl) ?_
    have hb4 : Below w.heap.size w (w2.setCells w.heap.size 0 (wordCells v (.slice A ns.length c)).toList) := (below_from hbX hb2).trans (below_cells_at _ _ _ _)
    have HLD := Lib.hid hld
    obtain ⟨A', c', e4, _, ht4'⟩ := own_row (own_apart hoN (lt_of_block HNX.out) (wordCells v (.slice A ns.length c)).toList 0)
    injection e4 with e5 _ e6
    subst e5 e6
    have ht4 := Lib.hid ht4'
    clear ht4' hoN
    refine hK _ _ ?_
    clear hK K hld hth
    generalize w2.setCells w.heap.size 0 (wordCells v (.slice A ns.length c)).toList = W4 at *
    refine wpAny_done (by kernel_rfl) ?_ _
    go_wp2_with fail
    exact bodyPost_ret (result_cell rfl _ _ _ rfl HLD.out) rfl ⟨_, rfl, A, c, wordIs v A ns.length c, hc, ht4.out, hb4⟩
end Go.Proofs.YtkplkienbgoofaaGreatDoor

namespace Go.Proofs.YtkplkienbgoofaaGreatDoor
open Go.RowKit
def fitC18 (c : ChgD) : Bool := decide (c.1.size ≤ 100) && decide (c.2.1.length ≤ 5000)
def fitP (l : List ChgD) : Bool := decide (l.length ≤ 12) && l.all fitC18 && decide (sizeC l ≤ 20000)
theorem fitP_len {l : List ChgD} (h : ¬ l.length ≤ 12) : fitP l = false := by simp [fitP, h]
theorem fitP_chg {l : List ChgD} {c : ChgD} (hc : c ∈ l) (h : fitC18 c = false) : fitP l = false := by
  have : l.all fitC18 = false := List.all_eq_false.2 ⟨c, hc, by simp [h]⟩
  rw [fitP, this]
  simp
theorem fitP_size {l : List ChgD} (h : 20000 < sizeC l) : fitP l = false := by
  have : decide (sizeC l ≤ 20000) = false := decide_eq_false (by omega)
  rw [fitP, this]
  simp
theorem fitP_yes {l : List ChgD} (h1 : l.length ≤ 12) (h2 : ∀ c ∈ l, fitC18 c = true) (h3 : sizeC l ≤ 20000) : fitP l = true := by
  rw [fitP, decide_eq_true h1, decide_eq_true h3, List.all_eq_true.2 h2]
  rfl
theorem fitP_out {l : List ChgD} (h : fitP l = true) : l.length ≤ 12 ∧ ∀ c ∈ l, c.1.size ≤ 100 ∧ c.2.1.length ≤ 5000 := by
  simp only [fitP, Bool.and_eq_true, decide_eq_true_eq, List.all_eq_true, fitC18] at h
  exact ⟨h.1.1, fun c hc => h.1.2 c hc⟩
set_option maxRecDepth 100000 in
set_option maxHeartbeats 4000000 in
theorem fits_pull (A : Option Addr) (c : Nat) (l : List ChgD) (w : World) (hr : ChgRow w A l) (hlm : l.length ≤ 9223372036854775807) (hpm : ∀ x ∈ l, x.1.size ≤ 9223372036854775807 ∧ x.2.1.length ≤ 9223372036854775807) :
    Calls Tryz.prog 10 #[.slice A l.length c] w fun e w' => e = .returned (.bool (fitP l)) ∧ Below w.heap.size w w' := by
  have HR := Lib.hid hr
  have HPC := Lib.hid hpm
  clear hr hpm
  by_cases hl : l.length ≤ 12
  · have d1 : decide ((12 : Int) < (l.length : Int)) = false := by simp; omega
    go_enter Tryz.func10, Tryz.ntmps10
    go_wp2_with fail
    go_loopw [3, 11] (fun n i wr => ∃ j : Nat, j ≤ l.length ∧ i = .int .i64 j ∧ n = .int .i64 ((sizeC (l.take j) : Nat) : Int) ∧ Below w.heap.size w wr ∧ sizeC (l.take j) ≤ 20000 ∧ ∀ m (hm : m < l.length), m < j → fitC18 l[m] = true) (fun _ i _ => l.length - (intOf i).toNat)
    case atStart => exact ⟨0, by omega, rfl, rfl, Below.refl _ _, by simp [sizeC], fun j hj h => by omega⟩
    case round =>
      obtain ⟨j, hj, rfl, rfl, hbv, hsj, hno⟩ := hrel
      have HNO := Lib.hid hno
      have HBV := Lib.hid hbv
      clear hno hbv
      by_cases hjl : j < l.length
      · obtain ⟨bc, offc, A3, c3, rfl, y1, y2, y3, y4, y5, y6⟩ := (HR.out.below HBV.out) j hjl
        have hsc := sizeC_take hjl
        obtain ⟨ch, hch⟩ : ∃ ch, ch = l[j] := ⟨_, rfl⟩
        have hpc := HPC.out ch (hch ▸ List.getElem_mem hjl)
        rw [← hch] at y1 y2 y3 y4 hsc
        have HCH := Lib.hid hch
        clear hch y5 y6
        obtain ⟨p, d, gn⟩ := ch
        simp only at y1 y2 y3 y4 hsc hpc
        obtain ⟨n1, hn1⟩ : ∃ n1, n1 = sizeC (l.take j) := ⟨_, rfl⟩
        rw [← hn1] at hsj hsc ⊢
        have hs1 := hpc.1
        have hs2 := hpc.2
        have hb1 := below_one wr (.cells #[.string p, .slice A3 d.length c3, .bool gn] 90)
        have HBN := Lib.hid (below_from HBV.out hb1)
        clear hpc hb1
        by_cases h100 : p.size ≤ 100
        · have d4 : decide ((100 : Int) < (p.size : Int)) = false := by simp; omega
          by_cases h1k : d.length ≤ 5000
          · have d5 : decide ((5000 : Int) < (d.length : Int)) = false := by simp; omega
            by_cases hmil : n1 + d.length ≤ 20000
            · have d6 : decide ((20000 : Int) < (n1 : Int) + (d.length : Int)) = false := by simp; omega
              go_wp2_with fail
              go_roundw
              case rel => exact ⟨j + 1, by omega, by go_num, by rw [hsc]; go_num, HBN.out, by omega, fun m hm h => by
                by_cases e : m = j
                · subst e; rw [← HCH.out, fitC18, decide_eq_true h100, decide_eq_true h1k]; rfl
                · exact HNO.out m hm (by omega)⟩
              case measure => simp [intOf]; omega
            · have d6 : decide ((20000 : Int) < (n1 : Int) + (d.length : Int)) = true := by simp; omega
              have HF : Hid (fitP l = false) := Lib.hid (fitP_size (by
                have h1 := sizeC_le l (j + 1)
                omega))
              go_wp2_with fail
              go_ret
              exact ⟨ret_bool HF.out.symm, HBN.out⟩
          · have d5 : decide ((5000 : Int) < (d.length : Int)) = true := by simp; omega
            have HF : Hid (fitP l = false) := Lib.hid (fitP_chg (List.getElem_mem hjl) (by rw [← HCH.out, fitC18, decide_eq_false h1k, Bool.and_false]))
            go_wp2_with fail
            go_ret
            exact ⟨ret_bool HF.out.symm, HBN.out⟩
        · have d4 : decide ((100 : Int) < (p.size : Int)) = true := by simp; omega
          have HF : Hid (fitP l = false) := Lib.hid (fitP_chg (List.getElem_mem hjl) (by rw [← HCH.out, fitC18, decide_eq_false h100, Bool.false_and]))
          go_wp2_with fail
          go_ret
          exact ⟨ret_bool HF.out.symm, HBN.out⟩
      · obtain rfl : j = l.length := by omega
        rw [List.take_length] at hsj
        have HF : Hid (fitP l = true) := Lib.hid (fitP_yes hl (fun c hc => by
          obtain ⟨m, hm, rfl⟩ := List.getElem_of_mem hc
          exact HNO.out m hm hm) hsj)
        go_wp2_with fail
        go_ret
        exact ⟨ret_bool HF.out.symm, HBV.out⟩
  · have d1 : decide ((12 : Int) < (l.length : Int)) = true := by simp; omega
    have HF : Hid (fitP l = false) := Lib.hid (fitP_len hl)
    go_enter Tryz.func10, Tryz.ntmps10
    go_wp2
    go_ret
    exact ⟨ret_bool HF.out.symm, Below.refl _ _⟩
end Go.Proofs.YtkplkienbgoofaaGreatDoor

namespace Go.Proofs.YtkplkienbgoofaaGreatDoor
open Go.RowKit
set_option maxRecDepth 100000 in
set_option maxHeartbeats 1000000 in
/-- The reference's Beneath. -/
theorem rbeneath_any (a b : ByteArray) (w : World) (ha : a.size ≤ 140737488351232) : Calls Tryz.prog 21 #[.string a, .string b] w fun e w' => e = .returned (.tuple #[.string (beneathB a b).1, .bool (beneathB a b).2]) ∧ w' = w := by
  have s1 : a.size + 1 ≤ 9223372036854775807 := by omega
  have H1 := Lib.hid (begins_slash b a)
  cases he : a.toList.isEmpty with
  | true =>
    have hr : beneathB a b = (b, !b.toList.isEmpty) := by rw [beneathB, if_pos he]
    rw [hr]
    clear hr
    go_enter Tryz.func21, Tryz.ntmps21
    go_wp2
    go_ret2
    exact ⟨rfl, rfl⟩
  | false =>
    have hr : beneathB a b = (trimP b (slash a), hasP b (slash a) && !(trimP b (slash a)).toList.isEmpty) := by rw [beneathB, if_neg (by simp [he])]
    cases h1 : hasP b (slash a) with
    | true =>
      have hz := hasP_size h1
      rw [slash_size] at hz
      have hz2 : a.size + 1 ≤ b.size := hz
      rw [hr, trimP_yes h1, slash_size, h1]
      clear hr hz
      go_enter Tryz.func21, Tryz.ntmps21
      go_wp2_with fail
      refine (H1.out _).mono ?_
      rintro e w' ⟨rfl, rfl⟩
      go_wp2
      go_ret2
      exact ⟨rfl, rfl⟩
    | false =>
      rw [hr, trimP_no h1, h1]
      clear hr
      go_enter Tryz.func21, Tryz.ntmps21
      go_wp2_with fail
      refine (H1.out _).mono ?_
      rintro e w' ⟨rfl, rfl⟩
      go_wp2
      go_ret2
      exact ⟨rfl, rfl⟩
end Go.Proofs.YtkplkienbgoofaaGreatDoor

namespace Go.Proofs.YtkplkienbgoofaaGreatDoor
open Go.RowKit

set_option maxRecDepth 100000 in
/-- The reference's sign. -/
theorem rsign_any (c : UInt8) (w : World) : Calls Tryz.prog 57 #[.int .u8 c.toNat] w fun e w' => e = .returned (.bool (signB c)) ∧ w' = w := by
  go_enter Tryz.func57, Tryz.ntmps57
  go_wp2
  all_goals go_ret
  all_goals exact ⟨ret_sign (by rw [Bool.eq_iff_iff, signB_iff]; simp at *; omega), rfl⟩
theorem ret_str {a b : ByteArray} (h : a = b) : Ending.returned (.string a) = .returned (.string b) := by rw [h]
theorem in_of_drop {s : ByteArray} {a j : Nat} (ha : a ≤ j) (h : j < a + (headSeg (s.data.toList.drop a)).length) : ∃ hj : j < s.size, s[j] ≠ 47 := by
  have h1 := headSeg_le (s.data.toList.drop a)
  have h2 : (s.data.toList.drop a).length = s.size - a := by simp
  have hj : j < s.size := by omega
  refine ⟨hj, ?_⟩
  have := headSeg_in (s.data.toList.drop a) (j - a) (by omega) (by omega)
  rw [List.getElem_drop] at this
  have e : a + (j - a) = j := by omega
  simp only [e] at this
  exact this
theorem end_of_drop {s : ByteArray} {a j : Nat} (ha : a ≤ s.size) (h : j = a + (headSeg (s.data.toList.drop a)).length) (hj : j < s.size) : s[j] = 47 := by
  have h2 : (s.data.toList.drop a).length = s.size - a := by simp
  have := headSeg_end (s.data.toList.drop a) (by omega)
  rw [List.getElem_drop] at this
  simp only [← h] at this
  exact this
set_option maxRecDepth 100000 in
set_option maxHeartbeats 1000000 in
/-- The reference's segment. -/
theorem seg_any (s : ByteArray) (a : Nat) (w : World) (ha : a ≤ s.size) (hs : s.size ≤ 140737488351232) : Calls Tryz.prog 56 #[.string s, .int .i64 a] w fun e w' => e = .returned (.string (segB s a)) ∧ w' = w := by
  have hl := headSeg_le (s.data.toList.drop a)
  have h2 : (s.data.toList.drop a).length = s.size - a := by simp
  rw [h2] at hl
  obtain ⟨n, hn⟩ : ∃ n, n = (headSeg (s.data.toList.drop a)).length := ⟨_, rfl⟩
  rw [← hn] at hl
  have HN := Lib.hid hn
  clear hn h2
  go_enter Tryz.func56, Tryz.ntmps56
  go_wp2
  go_loop [5] (fun i => ∃ j : Nat, a ≤ j ∧ j ≤ a + n ∧ i = .int .i64 j) (fun i => a + n - (intOf i).toNat)
  case atStart => exact ⟨a, by omega, by omega, rfl⟩
  case round =>
    obtain ⟨j, hj1, hj2, rfl⟩ := hrel
    by_cases hlt : j < a + n
    · obtain ⟨hj, hne⟩ := in_of_drop hj1 (by rw [← HN.out]; exact hlt)
      have hb0 : ((s[j].toNat : Int) == 47) = false := by rw [beq_eq_false_iff_ne]; intro e; exact hne (UInt8.toNat_inj.1 (by simp; omega))
      have hb1 : ((s[j].toNat : Int) != 47) = true := by rw [bne, hb0]; rfl
      clear hne
      go_wp2
      go_round
      case rel => exact ⟨j + 1, by omega, by omega, by go_num⟩
      case measure => simp [intOf]; omega
    · have e : j = a + n := by omega
      by_cases hj : j < s.size
      · have h47 := end_of_drop ha (by rw [← HN.out]; exact e) hj
        have hb0 : ((s[j].toNat : Int) == 47) = true := by rw [beq_iff_eq, h47]; rfl
        have hb1 : ((s[j].toNat : Int) != 47) = false := by rw [bne, hb0]; rfl
        have H47 := Lib.hid h47
        have E := Lib.hid e
        clear h47 e
        go_wp2
        go_ret
        exact ⟨ret_str (by rw [segB, ← HN.out, ← E.out]), rfl⟩
      · have E := Lib.hid e
        clear e
        go_wp2
        go_ret
        exact ⟨ret_str (by rw [segB, ← HN.out, ← E.out]), rfl⟩

/-- What the reference's Check hands back. -/
def refRes (r : Option Nat) : Ending :=
  match r with
  | none => .returned (.tuple #[.int .i64 0, .int .i64 0])
  | some p => .returned (.tuple #[.int .i64 1, .int .i64 p])
theorem refRes_some {r : Option Nat} {p : Nat} (h : r = some p) : Ending.returned (.tuple #[.int .i64 1, .int .i64 p]) = refRes r := by rw [h]; rfl
theorem refRes_none {r : Option Nat} (h : r = none) : Ending.returned (.tuple #[.int .i64 0, .int .i64 0]) = refRes r := by rw [h]; rfl
/-- How far the reference has come: the segment from place q on is the k-th. -/
def RefAt (s : ByteArray) (q k : Nat) : Prop := (q ≤ s.size → partsBad k q (splitSlash (s.data.toList.drop q)) = checkB s) ∧ (s.size < q → checkB s = none)
set_option maxRecDepth 100000 in
set_option maxHeartbeats 1000000 in
/-- The reference's Check. -/
theorem rcheck_any (s : ByteArray) (w : World) (hs : s.size ≤ 140737488351232) : Calls Tryz.prog 15 #[.string s] w fun e w' => e = refRes (checkB s) ∧ w' = w := by
  by_cases h0 : s.size = 0
  · have hc : checkB s = some 0 := by simp [checkB, h0, List.isEmpty_iff_length_eq_zero.2 (show s.data.toList.length = 0 from h0)]
    have HC := Lib.hid hc
    have he : s.toList.isEmpty = true := by rw [ByteArray.toList_eq, List.isEmpty_iff_length_eq_zero, size_len]; exact h0
    clear hc h0
    go_enter Tryz.func15, Tryz.ntmps15
    go_wp2
    go_ret2
    exact ⟨refRes_some HC.out, rfl⟩
  · have he : s.toList.isEmpty = false := by rw [ByteArray.toList_eq, ← Bool.not_eq_true, List.isEmpty_iff_length_eq_zero, size_len]; exact h0
    by_cases h1 : 64 < s.size
    · have hc : checkB s = some 64 := by
        rw [checkB, if_pos (by simp [h1])]
        congr 1
        omega
      have HC := Lib.hid hc
      clear hc h0
      go_enter Tryz.func15, Tryz.ntmps15
      go_wp2
      go_ret2
      exact ⟨refRes_some HC.out, rfl⟩
    · have hle : (s.size : Int) ≤ 64 := by omega
      have HCH := Lib.hid (checkB_slash s (by omega) (by omega))
      go_enter Tryz.func15, Tryz.ntmps15
      have hz64 : s.size ≤ 64 := by omega
      clear hs h0 h1
      go_wp2_with fail
      go_loop [4, 5] (fun a i => ∃ q k : Nat, a = .int .i64 q ∧ i = .int .i64 k ∧ k ≤ q ∧ q ≤ s.size + 1 ∧ RefAt s q k) (fun a _ => s.size + 1 - (intOf a).toNat)
      case atStart => exact ⟨0, 0, rfl, rfl, by omega, by omega, fun _ => HCH.out.symm, fun h => by omega⟩
      case round =>
        obtain ⟨q, k, rfl, rfl, hkq, hq1, hra⟩ := hrel
        have HRA := Lib.hid hra
        clear hra
        by_cases hq : q ≤ s.size
        · obtain ⟨p, hp⟩ : ∃ p, p = segB s q := ⟨_, rfl⟩
          have hseg := seg_any s q w hq (by omega)
          rw [← hp] at hseg
          have HSEG := Lib.hid hseg
          clear hseg
          have hpd : p.data.toList = headSeg (s.data.toList.drop q) := by rw [hp, segB_data]
          have hpz : p.size ≤ s.size - q := by
            rw [hp, segB_size]
            have := headSeg_le (s.data.toList.drop q)
            simpa using this
          have hP2 : partsBad k q (p.data.toList :: (if p.size < s.size - q then splitSlash (s.data.toList.drop (q + (p.size + 1))) else [])) = checkB s := by
            rw [← HRA.out.1 hq, splitSlash_head (s.data.toList.drop q), ← hpd, List.drop_drop, size_len]
            simp
          have HP2 := Lib.hid hP2
          clear hP2 hp hpd
          by_cases h6 : k = 6
          · have hres : checkB s = some q := by rw [← HP2.out, h6, partsBad_six]
            have HR := Lib.hid hres
            have h60 : ((k : Int) == 6) = true := by rw [beq_iff_eq]; omega
            clear h6 hres
            go_wp2_with (go_at_call 56; refine HSEG.out.mono ?_; rintro e w' ⟨rfl, rfl⟩)
            go_ret2
            exact ⟨refRes_some HR.out, rfl⟩
          · have h60 : ((k : Int) == 6) = false := by rw [beq_eq_false_iff_ne]; omega
            have hsn := segNo_eq p
            cases hno : segNo p.data.toList with
            | true =>
              have hres : checkB s = some q := by rw [← HP2.out, partsBad_no h6 hno]
              have HR := Lib.hid hres
              rw [hno] at hsn
              clear h6 hno hres
              cases b1 : p.toList.isEmpty with
              | true =>
                clear hsn
                go_wp2_with (go_at_call 56; refine HSEG.out.mono ?_; rintro e w' ⟨rfl, rfl⟩)
                go_ret2
                exact ⟨refRes_some HR.out, rfl⟩
              | false =>
                cases b2 : (p.toList == [46]) with
                | true =>
                  clear hsn
                  go_wp2_with (go_at_call 56; refine HSEG.out.mono ?_; rintro e w' ⟨rfl, rfl⟩)
                  go_ret2
                  exact ⟨refRes_some HR.out, rfl⟩
                | false =>
                  cases b3 : (p.toList == [46, 46]) with
                  | true =>
                    clear hsn
                    go_wp2_with (go_at_call 56; refine HSEG.out.mono ?_; rintro e w' ⟨rfl, rfl⟩)
                    go_ret2
                    exact ⟨refRes_some HR.out, rfl⟩
                  | false =>
                    rw [b1, b2, b3] at hsn
                    have hz : (16 : Int) < (p.size : Int) := by
                      have hz0 : 16 < p.size := by simpa using hsn
                      omega
                    have hz1 : decide (16 < p.size) = true := by simp; omega
                    clear hsn
                    go_wp2_with (go_at_call 56; refine HSEG.out.mono ?_; rintro e w' ⟨rfl, rfl⟩)
                    go_ret2
                    exact ⟨refRes_some HR.out, rfl⟩
            | false =>
              rw [hno] at hsn
              have HNO := Lib.hid hno
              have H6 := Lib.hid h6
              clear hno h6
              cases b1 : p.toList.isEmpty with
              | true => rw [b1] at hsn; simp at hsn
              | false =>
                cases b2 : (p.toList == [46]) with
                | true => rw [b1, b2] at hsn; simp at hsn
                | false =>
                  cases b3 : (p.toList == [46, 46]) with
                  | true => rw [b1, b2, b3] at hsn; simp at hsn
                  | false =>
                    rw [b1, b2, b3] at hsn
                    have hz : (p.size : Int) ≤ 16 := by
                      have hz0 : p.size ≤ 16 := by simpa using hsn
                      omega
                    have hz1 : decide (16 < p.size) = false := by simp; omega
                    clear hsn
                    go_wp2_with (go_at_call 56; refine HSEG.out.mono ?_; rintro e w' ⟨rfl, rfl⟩)
                    go_loop [7] (fun i => ∃ j : Nat, j ≤ p.size ∧ i = .int .i64 j ∧ badAt j (p.data.toList.drop j) = badAt 0 p.data.toList) (fun i => p.size - (intOf i).toNat)
                    case atStart => exact ⟨0, by omega, rfl, rfl⟩
                    case round =>
                      obtain ⟨j, hj, rfl, hbj⟩ := hrel
                      have HB := Lib.hid hbj
                      clear hbj
                      by_cases hjl : j < p.size
                      · cases hs : signB p[j] with
                        | true =>
                          have HS := Lib.hid (badAt_step (l := p.data.toList) (k := j) hjl hs)
                          go_wp2_with (go_at_call 57; refine (rsign_any p[j] _).mono ?_; rintro e w' ⟨rfl, rfl⟩)
                          go_round
                          case rel => exact ⟨j + 1, by omega, by go_num, by rw [← HS.out]; exact HB.out⟩
                          case measure => simp [intOf]; omega
                        | false =>
                          have hres : checkB s = some (q + j) := by
                            rw [← HP2.out, partsBad_byte H6.out HNO.out (j := j)]
                            rw [← HB.out]
                            exact badAt_hit (l := p.data.toList) (k := j) hjl hs
                          have HR := Lib.hid hres
                          clear hres
                          go_wp2_with (go_at_call 57; refine (rsign_any p[j] _).mono ?_; rintro e w' ⟨rfl, rfl⟩)
                          go_ret2
                          exact ⟨refRes_some HR.out, rfl⟩
                      · have hres : partsBad (k + 1) (q + (p.size + 1)) (if p.size < s.size - q then splitSlash (s.data.toList.drop (q + (p.size + 1))) else []) = checkB s := by
                          rw [← HP2.out, partsBad_next H6.out HNO.out]
                          · rfl
                          · rw [← HB.out]
                            obtain rfl : j = p.size := by omega
                            exact badAt_end
                        have HR := Lib.hid hres
                        clear hres
                        go_wp2
                        go_round
                        case rel => exact ⟨q + (p.size + 1), k + 1, by go_num, by go_num, by omega, by omega, fun h => by rw [← HR.out, if_pos (by omega)], fun h => by rw [← HR.out, if_neg (by omega)]; rfl⟩
                        case measure => simp [intOf]; omega
        · have hres : checkB s = none := HRA.out.2 (by omega)
          have HR := Lib.hid hres
          clear hres
          go_wp2
          go_ret2
          exact ⟨refRes_none HR.out, rfl⟩
end Go.Proofs.YtkplkienbgoofaaGreatDoor

namespace Go.Proofs.YtkplkienbgoofaaGreatDoor
open Go.RowKit Go.Maps Go.WideMaps Go.WideAt
open Go.Proofs.YtkplkienbgoofaaGreatDoorW.PrintWords (Kd ReadsRow)
theorem check_le {p : ByteArray} (h : checkB p = none) : p.size ≤ 64 := by
  by_cases h64 : p.size ≤ 64
  · exact h64
  · have : checkB p = some (min p.size 64) := by
      simp only [checkB, size_len]
      rw [if_pos]
      simp only [Bool.or_eq_true, List.isEmpty_iff_length_eq_zero, size_len, decide_eq_true_eq]
      exact .inr (by omega)
    rw [h] at this
    cases this
theorem take_filter (l : List ByteArray) (pr : ByteArray → Bool) (k : Nat) (h : k < l.length) : (l.take (k + 1)).filter pr = (l.take k).filter pr ++ if pr l[k] then [l[k]] else [] := by
  rw [List.take_succ_eq_append_getElem h, List.filter_append]
  cases hp : pr l[k] <;> simp [hp]
theorem root_join (root : ByteArray) : (⟨#[114, 47]⟩ : ByteArray) ++ root = joinB ⟨#[114]⟩ root := by
  rw [joinB_root (show (⟨#[114]⟩ : ByteArray).toList.isEmpty = false by rw [ByteArray.toList_eq]; rfl)]
  exact ba_ext (by simp)
set_option maxRecDepth 100000 in
set_option maxHeartbeats 1000000 in
theorem pullLists_walk (v : Value) (l : List ChgD) (root : ByteArray) (w : World) (hv : SliceArg kChg w v l) (hg0 : ∀ x ∈ l, ChgArg x) (hroot : root.size ≤ 140737488351232) (hg : Env w) :
    Calls Tryz.prog 3 #[v, .string root] w fun e w' => e = .returned (.bool true) ∧ Below w.heap.size w w' := by
  obtain ⟨A, c, rfl, hlc, hcm, hC⟩ := hv
  have hmx : (maxLen : Nat) = 9223372036854775807 := rfl
  have HK := Lib.hid (gives_any w hg.ml)
  have HG := Lib.hid hg
  have hr := chgRow_of hC
  have hll := chgLen_of hC
  have HR := Lib.hid hr
  have hlm : l.length ≤ 9223372036854775807 := by omega
  have HF := Lib.hid (fun W (hb : Below w.heap.size w W) => fits_pull A c l W (hr.below hb) hlm (fun x hx => ⟨by have := (hg0 x hx).1; omega, hll x hx⟩))
  have HGA := Lib.hid hg0
  clear hg hC hr hll hg0
  cases hfit : fitP l with
  | false =>
    rw [hfit] at HF
    go_enter Tryz.func3, Tryz.ntmps3
    go_wp2_with fail
    refine HK.out.mono ?_
    rintro e w1 ⟨rfl, hb1⟩
    go_wp2_with fail
    refine (HF.out w1 hb1).mono ?_
    rintro e w2 ⟨rfl, hb2⟩
    go_wp2_with fail
    go_ret
    exact ⟨rfl, below_from hb1 hb2⟩
  | true =>
    rw [hfit] at HF
    obtain ⟨hf1, hf2⟩ := fitP_out hfit
    have HGC : Hid (∀ x ∈ l, GoodC x) := Lib.hid (fun x hx => ⟨by have := (hf2 x hx).1; omega, (HGA.out x hx).2.1, by have := (hf2 x hx).2; omega⟩)
    clear hf2 hfit
    by_cases h100 : root.size ≤ 100
    · have dl6 : decide ((100 : Int) < (root.size : Int)) = false := by simp; omega
      obtain ⟨al, hal⟩ : ∃ al, al = joinB ⟨#[114]⟩ root := ⟨_, rfl⟩
      have hrj : (⟨#[114, 47]⟩ : ByteArray) ++ root = al := by rw [hal]; exact root_join root
      have hals : al.size ≤ 200 := by rw [← hrj, ByteArray.size_append]; show 2 + root.size ≤ 200; omega
      have HAL := Lib.hid hal
      go_enter Tryz.func3, Tryz.ntmps3
      go_wp2_with fail
      refine HK.out.mono ?_
      rintro e w1 ⟨rfl, hb1⟩
      go_wp2_with fail
      refine (HF.out w1 hb1).mono ?_
      rintro e w2 ⟨rfl, hb2⟩
      have HB2 := Lib.hid (below_from hb1 hb2)
      have hbs2 : w.heap.size ≤ w2.heap.size := HB2.out.size
      clear hb1 hb2
      go_wp2_with fail
      refine (new_store w2).mono ?_
      rintro e w3 ⟨s, g, b, pm, rfl, hs3, hb3⟩
      have HS3 := Lib.hid hs3
      have HB3 := Lib.hid hb3
      have hbs3 : w2.heap.size ≤ w3.heap.size := hb3.size
      have HW3 := Lib.hid (below_from HB2.out hb3)
      clear hs3 hb3
      go_wp2_with fail
      refine (scommit_any s g b pm 0 A c l [] [] w3 (base := w2.heap.size) (by simp) (by omega) (fun W hW _ => HR.out.below (HB2.out.trans ((HB3.out.trans hW).mono hbs2))) HGC.out (by simp [mapN]) (by omega) (rise_none _) hbs3 HS3.out (HG.out.below HW3.out).ml).mono ?_
      intro e w4 hpost
      obtain ⟨now, F, u1, u2, rfl, hs4, hok, hmF, hnow, hb4, hf4⟩ := ok_first hpost HS3.out hbs3
      have HS4 := Lib.hid hs4
      have HOK := Lib.hid hok
      have HB4 := Lib.hid (HB3.out.trans hb4)
      have hbs4 : w2.heap.size ≤ w4.heap.size := HB4.out.size
      have HW4 := Lib.hid (HB2.out.trans (HB4.out.mono hbs2))
      clear hs4 hok hb4 hf4 hpost
      go_wp2_with fail
      refine (in_any w4).mono ?_
      rintro e w5 ⟨rfl, hb5⟩
      have HS5 := Lib.hid (HS4.out.below hb5)
      have HB5 := Lib.hid (below_from HB4.out hb5)
      have hbs5 : w2.heap.size ≤ w5.heap.size := HB5.out.size
      have HW5 := Lib.hid (HB2.out.trans (HB5.out.mono hbs2))
      clear hb5
      go_wp2_with fail
      by_cases hbad : root.toList.isEmpty = false ∧ ∃ q, checkB (joinB ⟨#[114]⟩ root) = some q
      · obtain ⟨he, q, hq⟩ := hbad
        have HQ : Hid (checkB al = some q) := Lib.hid (by rw [hal]; exact hq)
        refine (pull_bad s ⟨#[109]⟩ ⟨#[114]⟩ root false 0 0 (.slice none 0 0) q w5 (by decide) (by omega) he hq (HG.out.below HW5.out).ml).mono ?_
        rintro e w6 ⟨rfl, hb6⟩
        have HS6 := Lib.hid (HS5.out.below hb6)
        have HB6 := Lib.hid (below_from HB5.out hb6)
        have HW6 := Lib.hid (HB2.out.trans (HB6.out.mono hbs2))
        clear hb6 hq hal
        go_wp2_with fail
        refine (rcheck_any al w6 (by omega)).mono ?_
        rw [HQ.out]
        rintro e w7 ⟨he7, rfl⟩
        replace he7 : e = .returned (.tuple #[.int .i64 1, .int .i64 q]) := he7
        subst he7
        go_wp2_with fail
        refine (number (.iface 40 (.int .i64 90)) (.errno 90) w7 rfl (HG.out.below HW6.out)).mono ?_
        rintro e w8 ⟨rfl, hb8⟩
        have e90 : GErr.num (.errno 90) = 90 := rfl
        rw [e90]
        have HS8 := Lib.hid (HS6.out.below hb8)
        have HB8 := Lib.hid (below_from HW6.out hb8)
        clear hb8
        go_wp2_with fail
        refine (pinned_any s g b pm now F [] w8 (base := w2.heap.size) (by simp) HS8.out).mono ?_
        rintro e w9 ⟨A7, c7, K, rfl, _, hK, _, hb9⟩
        have hK0 : K.length = 0 := by simpa using hK
        rw [hK0]
        have HB9 := Lib.hid (below_from HB8.out hb9)
        clear hb9 hK
        go_wp2_with fail
        go_ret
        exact ⟨rfl, HB9.out⟩
      · have hck : root.toList.isEmpty = true ∨ checkB (joinB ⟨#[114]⟩ root) = none := by
          cases he : root.toList.isEmpty with
          | true => exact .inl rfl
          | false =>
            refine .inr ?_
            cases hq : checkB (joinB ⟨#[114]⟩ root) with
            | none => rfl
            | some q => exact absurd ⟨he, q, hq⟩ hbad
        have HCK := Lib.hid hck
        refine (pull_new s g b pm now F [] ⟨#[109]⟩ ⟨#[114]⟩ root false 0 0 (.slice none 0 0) w5 (base := w2.heap.size) (by simp) (by omega) (by omega) (by decide) (by omega) hck hbs5 HS5.out (HG.out.below HW5.out).ml).mono ?_
        rintro e w6 (⟨h64, _⟩ | ⟨_, ja, rfl, hs6, hj6, hb6, hf6⟩)
        · cases h64
        have hls : ([] ++ [(now : Int)] : List Int) = [(now : Int)] := rfl
        rw [hls] at hs6
        rw [← want_pull HOK.out HS5.out.tree.once (rt := ⟨#[114]⟩) (by simp) hck] at hj6
        obtain ⟨ps, hps⟩ : ∃ ps, ps = wantP now F ⟨#[114]⟩ root := ⟨_, rfl⟩
        rw [← hps] at hj6
        have HPS := Lib.hid hps
        have HS6 := Lib.hid hs6
        have HJ6 := Lib.hid hj6
        have HB6 := Lib.hid (HB5.out.trans hb6)
        have hbs6 : w2.heap.size ≤ w6.heap.size := HB6.out.size
        have HW6 := Lib.hid (HB2.out.trans (HB6.out.mono hbs2))
        have hwf : (Lit.int .i64 (now : Int)).wf = true := by simp [Lit.wf, IntKind.min, IntKind.max, IntKind.signed, IntKind.bits]; omega
        clear hs6 hj6 hb6 hf6 hps hls hck hbad hal
        go_upto_if 45 with fail
        go_cut [8] from 9 to 67 (fun ov wc => ov = .string (allP ⟨#[114]⟩ root) ∧ wc = w6)
        case first =>
          cases he : root.toList.isEmpty with
          | true =>
            have ha : allP ⟨#[114]⟩ root = ⟨#[114]⟩ := by rw [allP, he]; rfl
            go_wp2_with fail
            go_meet
            case rel => exact ⟨by rw [ha], rfl⟩
          | false =>
            have ha : allP ⟨#[114]⟩ root = al := by rw [allP, he, HAL.out]; rfl
            have hn : checkB al = none := by rw [HAL.out]; exact HCK.out.resolve_left (by rw [he]; simp)
            have HN := Lib.hid hn
            have HA := Lib.hid ha
            clear hn ha
            go_wp2_with fail
            refine (rcheck_any al w6 (by omega)).mono ?_
            rw [HN.out]
            rintro e w7 ⟨he7, rfl⟩
            replace he7 : e = .returned (.tuple #[.int .i64 0, .int .i64 0]) := he7
            subst he7
            go_wp2_with fail
            go_meet
            case rel => exact ⟨by rw [HA.out], rfl⟩
        case rest =>
          obtain ⟨rfl, rfl⟩ := hcut
          obtain ⟨w7, rfl⟩ : ∃ W, W = wc := ⟨wc, rfl⟩
          obtain ⟨al', hal'⟩ : ∃ x, x = allP ⟨#[114]⟩ root := ⟨_, rfl⟩
          have hal2 : al'.size ≤ 200 := by
            rw [hal', allP]
            split
            · decide
            · rw [← HAL.out]; exact hals
          rw [← hal']
          have HAL2 := Lib.hid hal'
          obtain ⟨cs0, _, _⟩ := store_cells HS6.out
          have HV : Hid (∀ W, Below w7.heap.size w7 W → Calls Tryz.prog 18 #[.pointer (some ⟨ja, 0, none⟩)] W fun e w' => e = .returned (.int .i64 now) ∧ w' = W) := Lib.hid (fun W hW => version_any ja s _ _ _ _ _ W (HJ6.out.below hW))
          have HN : Hid (∀ W, Below w7.heap.size w7 W → Calls Tryz.prog 19 #[.pointer (some ⟨g, 0, none⟩)] W fun e w' => e = .returned (.int .i64 now) ∧ w' = W) := Lib.hid (fun W hW => now_any g b now F W (HS6.out.below hW).tree)
          have HPI : Hid (∀ W, Below w7.heap.size w7 W → Calls Tryz.prog 17 #[.pointer (some ⟨s, 0, none⟩)] W fun e w' => ∃ A c, e = .returned (.slice A 1 c) ∧ Below W.heap.size W w') := Lib.hid (fun W hW => (pinned_any s g b pm now F [(now : Int)] W (base := w2.heap.size) (by simp) (HS6.out.below hW)).mono (fun e w' ⟨A, c, K, e1, e2, e3, _, e4⟩ => ⟨A, c, by
            have h1 : K ≠ [] := fun h => by have := (e2.mem now).2 (by simp); rw [h] at this; cases this
            have h2 : K.length = 1 := by have := List.length_pos_iff.2 h1; simp at e3; omega
            rw [h2] at e1
            exact e1, e4⟩))
          have hja := Lib.hid HJ6
          clear hal'
          go_upto_region 14 with fail
          go_cut [89] from 68 to 89 (fun t W => t = .bool false ∧ Below w7.heap.size w7 W)
          case first =>
            -- REGION
            refine wp_region_any (by kernel_rfl) ?_
            change wpAny _ _ _ _ _ _ _ (World.drew _)
            have hbX : Below w7.heap.size w7 w7.drew := (Below.refl _ _).drew
            generalize World.drew w7 = X0 at *
            have cx0 := cell_below hbX cs0
            refine wpAny_take (i := 0) (v := ?_) rfl (by kernel_rfl) (by kernel_rfl) (by kernel_rfl) (fun _ _ _ h => h) (Or.inl ⟨by kernel_rfl, ?hy⟩) ?_
            case hy => (intro w'; go_simp; try with_reducible rfl)
            try simp only [Act.put, List.setIfInBounds_toArray, List.set_cons_zero, List.set_cons_succ, List.getElem_toArray, List.getElem_cons_zero, List.getElem_cons_succ]
            refine wpAny_take (i := 1) (v := ?_) rfl (by kernel_rfl) (by kernel_rfl) (by kernel_rfl) (fun _ _ _ h => h) (Or.inl ⟨by kernel_rfl, ?hy⟩) ?_
            case hy => (intro w'; go_simp; try with_reducible rfl)
            try simp only [Act.put, List.setIfInBounds_toArray, List.set_cons_zero, List.set_cons_succ, List.getElem_toArray, List.getElem_cons_zero, List.getElem_cons_succ]
            refine wpAny_take (i := 2) (v := ?_) rfl (by kernel_rfl) (by kernel_rfl) (by kernel_rfl) (fun _ _ _ h => h) (Or.inl ⟨by kernel_rfl, ?hy⟩) ?_
            case hy => (intro w'; go_simp; try with_reducible rfl)
            try simp only [Act.put, List.setIfInBounds_toArray, List.set_cons_zero, List.set_cons_succ, List.getElem_toArray, List.getElem_cons_zero, List.getElem_cons_succ]
            refine wpAny_take (i := 3) (v := ?_) rfl (by kernel_rfl) (by kernel_rfl) (by kernel_rfl) (fun _ _ _ h => h) (Or.inl ⟨by kernel_rfl, ?hy⟩) ?_
            case hy => (intro w'; go_simp; try with_reducible rfl)
            try simp only [Act.put, List.setIfInBounds_toArray, List.set_cons_zero, List.set_cons_succ, List.getElem_toArray, List.getElem_cons_zero, List.getElem_cons_succ]
            refine wpAny_take (i := 4) (v := ?_) rfl (by kernel_rfl) (by kernel_rfl) (by kernel_rfl) (fun _ _ _ h => h) (Or.inl ⟨by kernel_rfl, ?hy⟩) ?_
            case hy => (intro w'; go_simp; try with_reducible rfl)
            try simp only [Act.put, List.setIfInBounds_toArray, List.set_cons_zero, List.set_cons_succ, List.getElem_toArray, List.getElem_cons_zero, List.getElem_cons_succ]
            refine wpAny_take (i := 5) (v := ?_) rfl (by kernel_rfl) (by kernel_rfl) (by kernel_rfl) (fun _ _ _ h => h) (Or.inl ⟨by kernel_rfl, ?hy⟩) ?_
            case hy => (intro w'; go_simp; try with_reducible rfl)
            try simp only [Act.put, List.setIfInBounds_toArray, List.set_cons_zero, List.set_cons_succ, List.getElem_toArray, List.getElem_cons_zero, List.getElem_cons_succ]
            refine wpAny_take (i := 6) (v := ?_) rfl (by kernel_rfl) (by kernel_rfl) (by kernel_rfl) (fun _ _ _ h => h) (Or.inl ⟨by kernel_rfl, ?hy⟩) ?_
            case hy => (intro w'; go_simp; try with_reducible rfl)
            try simp only [Act.put, List.setIfInBounds_toArray, List.set_cons_zero, List.set_cons_succ, List.getElem_toArray, List.getElem_cons_zero, List.getElem_cons_succ]
            refine wpAny_take (i := 7) (v := ?_) rfl (by kernel_rfl) (by kernel_rfl) (by kernel_rfl) (fun _ _ _ h => h) (Or.inl ⟨by kernel_rfl, ?hy⟩) ?_
            case hy => (intro w'; go_simp; try with_reducible rfl)
            try simp only [Act.put, List.setIfInBounds_toArray, List.set_cons_zero, List.set_cons_succ, List.getElem_toArray, List.getElem_cons_zero, List.getElem_cons_succ]
            refine wpAny_take (i := 9) (v := ?_) rfl (by kernel_rfl) (by kernel_rfl) (by kernel_rfl) (fun _ _ _ h => h) (Or.inl ⟨by kernel_rfl, ?hy⟩) ?_
            case hy => (intro w'; go_simp; try with_reducible rfl)
            try simp only [Act.put, List.setIfInBounds_toArray, List.set_cons_zero, List.set_cons_succ, List.getElem_toArray, List.getElem_cons_zero, List.getElem_cons_succ]
            refine wpAny_take (i := 10) (v := ?_) rfl (by kernel_rfl) (by kernel_rfl) (by kernel_rfl) (fun _ _ _ h => h) (Or.inl ⟨by kernel_rfl, ?hy⟩) ?_
            case hy => (intro w'; go_simp; try with_reducible rfl)
            try simp only [Act.put, List.setIfInBounds_toArray, List.set_cons_zero, List.set_cons_succ, List.getElem_toArray, List.getElem_cons_zero, List.getElem_cons_succ]
            refine wpAny_take (i := 11) (v := ?_) rfl (by kernel_rfl) (by kernel_rfl) (by kernel_rfl) (fun _ _ _ h => h) (Or.inl ⟨by kernel_rfl, ?hy⟩) ?_
            case hy => (intro w'; go_simp; try with_reducible rfl)
            try simp only [Act.put, List.setIfInBounds_toArray, List.set_cons_zero, List.set_cons_succ, List.getElem_toArray, List.getElem_cons_zero, List.getElem_cons_succ]
            refine wpAny_ready (rs := [8, 12]) (by kernel_rfl) (by simp) ?_
            refine AllReady.cons rfl (fun K hK => ?_) (AllReady.cons rfl (fun K hK => ?_) AllReady.nil)
            case refine_1 =>
              go_simp
              refine (HV.out _ hbX).mono ?_
              rintro e wv ⟨rfl, rfl⟩
              go_wp2_with fail
              try simp only [Act.put, List.setIfInBounds_toArray, List.set_cons_zero, List.set_cons_succ, List.getElem_toArray, List.getElem_cons_zero, List.getElem_cons_succ]
              refine wpAny_ready (rs := [12]) (by kernel_rfl) (by simp) ?_
              refine AllReady.cons rfl (fun K hK => ?_) AllReady.nil
              go_simp
              refine hK _ _ ?_
              clear hK K
              try simp only [Act.put, List.setIfInBounds_toArray, List.set_cons_zero, List.set_cons_succ, List.getElem_toArray, List.getElem_cons_zero, List.getElem_cons_succ]
              refine wpAny_ready (rs := [13]) (by kernel_rfl) (by simp) ?_
              refine AllReady.cons rfl (fun K hK => ?_) AllReady.nil
              go_simp
              refine (HN.out _ hbX).mono ?_
              rintro e wv ⟨rfl, rfl⟩
              go_wp2_with fail
              try simp only [Act.put, List.setIfInBounds_toArray, List.set_cons_zero, List.set_cons_succ, List.getElem_toArray, List.getElem_cons_zero, List.getElem_cons_succ]
              refine wpAny_take (i := 14) (v := ?_) rfl (by kernel_rfl) (by kernel_rfl) (by kernel_rfl) (fun _ _ _ h => h) (Or.inl ⟨by kernel_rfl, ?hy⟩) ?_
              case hy => (intro w'; go_simp; try with_reducible rfl)
              try simp only [Act.put, List.setIfInBounds_toArray, List.set_cons_zero, List.set_cons_succ, List.getElem_toArray, List.getElem_cons_zero, List.getElem_cons_succ]
              refine wpAny_take (i := 15) (v := ?_) rfl (by kernel_rfl) (by kernel_rfl) (by kernel_rfl) (fun _ _ _ h => h) (Or.inl ⟨by kernel_rfl, ?hy⟩) ?_
              case hy => (intro w'; go_simp; try with_reducible rfl)
              try simp only [Act.put, List.setIfInBounds_toArray, List.set_cons_zero, List.set_cons_succ, List.getElem_toArray, List.getElem_cons_zero, List.getElem_cons_succ]
              refine wpAny_take (i := 16) (v := ?_) rfl (by kernel_rfl) (by kernel_rfl) (by kernel_rfl) (fun _ _ _ h => h) (Or.inl ⟨by kernel_rfl, ?hy⟩) ?_
              case hy => (intro w'; go_simp; try with_reducible rfl)
              try simp only [Act.put, List.setIfInBounds_toArray, List.set_cons_zero, List.set_cons_succ, List.getElem_toArray, List.getElem_cons_zero, List.getElem_cons_succ]
              refine wpAny_take (i := 17) (v := ?_) rfl (by kernel_rfl) (by kernel_rfl) (by kernel_rfl) (fun _ _ _ h => h) (Or.inl ⟨by kernel_rfl, ?hy⟩) ?_
              case hy => (intro w'; go_simp; try with_reducible rfl)
              try simp only [Act.put, List.setIfInBounds_toArray, List.set_cons_zero, List.set_cons_succ, List.getElem_toArray, List.getElem_cons_zero, List.getElem_cons_succ]
              refine wpAny_ready (rs := [18]) (by kernel_rfl) (by simp) ?_
              refine AllReady.cons rfl (fun K hK => ?_) AllReady.nil
              go_simp
              refine (HPI.out _ hbX).mono ?_
              rintro e wq ⟨A7, c7, rfl, hbq⟩
              go_wp2_with fail
              try simp only [Act.put, List.setIfInBounds_toArray, List.set_cons_zero, List.set_cons_succ, List.getElem_toArray, List.getElem_cons_zero, List.getElem_cons_succ]
              refine wpAny_take (i := 19) (v := ?_) rfl (by kernel_rfl) (by kernel_rfl) (by kernel_rfl) (fun _ _ _ h => h) (Or.inl ⟨by kernel_rfl, ?hy⟩) ?_
              case hy => (intro w'; go_simp; try with_reducible rfl)
              try simp only [Act.put, List.setIfInBounds_toArray, List.set_cons_zero, List.set_cons_succ, List.getElem_toArray, List.getElem_cons_zero, List.getElem_cons_succ]
              refine wpAny_take (i := 20) (v := ?_) rfl (by kernel_rfl) (by kernel_rfl) (by kernel_rfl) (fun _ _ _ h => h) (Or.inl ⟨by kernel_rfl, ?hy⟩) ?_
              case hy => (intro w'; go_simp; try with_reducible rfl)
              try simp only [Act.put, List.setIfInBounds_toArray, List.set_cons_zero, List.set_cons_succ, List.getElem_toArray, List.getElem_cons_zero, List.getElem_cons_succ]
              refine wpAny_take (i := 21) (v := ?_) rfl (by kernel_rfl) (by kernel_rfl) (by kernel_rfl) (fun _ _ _ h => h) (Or.inl ⟨by kernel_rfl, ?hy⟩) ?_
              case hy => (intro w'; go_simp; try with_reducible rfl)
              try simp only [Act.put, List.setIfInBounds_toArray, List.set_cons_zero, List.set_cons_succ, List.getElem_toArray, List.getElem_cons_zero, List.getElem_cons_succ]
              refine wpAny_done (by kernel_rfl) ?_ _
              have hbx2 := hbX.trans (hbq.mono hbX.size)
              go_wp2_with fail
              go_meet
              case rel => exact ⟨rfl, hbx2⟩
            case refine_2 =>
              go_simp
              refine hK _ _ ?_
              clear hK K
              try simp only [Act.put, List.setIfInBounds_toArray, List.set_cons_zero, List.set_cons_succ, List.getElem_toArray, List.getElem_cons_zero, List.getElem_cons_succ]
              refine wpAny_ready (rs := [8]) (by kernel_rfl) (by simp) ?_
              refine AllReady.cons rfl (fun K hK => ?_) AllReady.nil
              go_simp
              refine (HV.out _ hbX).mono ?_
              rintro e wv ⟨rfl, rfl⟩
              go_wp2_with fail
              try simp only [Act.put, List.setIfInBounds_toArray, List.set_cons_zero, List.set_cons_succ, List.getElem_toArray, List.getElem_cons_zero, List.getElem_cons_succ]
              refine wpAny_ready (rs := [13]) (by kernel_rfl) (by simp) ?_
              refine AllReady.cons rfl (fun K hK => ?_) AllReady.nil
              go_simp
              refine (HN.out _ hbX).mono ?_
              rintro e wv ⟨rfl, rfl⟩
              go_wp2_with fail
              try simp only [Act.put, List.setIfInBounds_toArray, List.set_cons_zero, List.set_cons_succ, List.getElem_toArray, List.getElem_cons_zero, List.getElem_cons_succ]
              refine wpAny_take (i := 14) (v := ?_) rfl (by kernel_rfl) (by kernel_rfl) (by kernel_rfl) (fun _ _ _ h => h) (Or.inl ⟨by kernel_rfl, ?hy⟩) ?_
              case hy => (intro w'; go_simp; try with_reducible rfl)
              try simp only [Act.put, List.setIfInBounds_toArray, List.set_cons_zero, List.set_cons_succ, List.getElem_toArray, List.getElem_cons_zero, List.getElem_cons_succ]
              refine wpAny_take (i := 15) (v := ?_) rfl (by kernel_rfl) (by kernel_rfl) (by kernel_rfl) (fun _ _ _ h => h) (Or.inl ⟨by kernel_rfl, ?hy⟩) ?_
              case hy => (intro w'; go_simp; try with_reducible rfl)
              try simp only [Act.put, List.setIfInBounds_toArray, List.set_cons_zero, List.set_cons_succ, List.getElem_toArray, List.getElem_cons_zero, List.getElem_cons_succ]
              refine wpAny_take (i := 16) (v := ?_) rfl (by kernel_rfl) (by kernel_rfl) (by kernel_rfl) (fun _ _ _ h => h) (Or.inl ⟨by kernel_rfl, ?hy⟩) ?_
              case hy => (intro w'; go_simp; try with_reducible rfl)
              try simp only [Act.put, List.setIfInBounds_toArray, List.set_cons_zero, List.set_cons_succ, List.getElem_toArray, List.getElem_cons_zero, List.getElem_cons_succ]
              refine wpAny_take (i := 17) (v := ?_) rfl (by kernel_rfl) (by kernel_rfl) (by kernel_rfl) (fun _ _ _ h => h) (Or.inl ⟨by kernel_rfl, ?hy⟩) ?_
              case hy => (intro w'; go_simp; try with_reducible rfl)
              try simp only [Act.put, List.setIfInBounds_toArray, List.set_cons_zero, List.set_cons_succ, List.getElem_toArray, List.getElem_cons_zero, List.getElem_cons_succ]
              refine wpAny_ready (rs := [18]) (by kernel_rfl) (by simp) ?_
              refine AllReady.cons rfl (fun K hK => ?_) AllReady.nil
              go_simp
              refine (HPI.out _ hbX).mono ?_
              rintro e wq ⟨A7, c7, rfl, hbq⟩
              go_wp2_with fail
              try simp only [Act.put, List.setIfInBounds_toArray, List.set_cons_zero, List.set_cons_succ, List.getElem_toArray, List.getElem_cons_zero, List.getElem_cons_succ]
              refine wpAny_take (i := 19) (v := ?_) rfl (by kernel_rfl) (by kernel_rfl) (by kernel_rfl) (fun _ _ _ h => h) (Or.inl ⟨by kernel_rfl, ?hy⟩) ?_
              case hy => (intro w'; go_simp; try with_reducible rfl)
              try simp only [Act.put, List.setIfInBounds_toArray, List.set_cons_zero, List.set_cons_succ, List.getElem_toArray, List.getElem_cons_zero, List.getElem_cons_succ]
              refine wpAny_take (i := 20) (v := ?_) rfl (by kernel_rfl) (by kernel_rfl) (by kernel_rfl) (fun _ _ _ h => h) (Or.inl ⟨by kernel_rfl, ?hy⟩) ?_
              case hy => (intro w'; go_simp; try with_reducible rfl)
              try simp only [Act.put, List.setIfInBounds_toArray, List.set_cons_zero, List.set_cons_succ, List.getElem_toArray, List.getElem_cons_zero, List.getElem_cons_succ]
              refine wpAny_take (i := 21) (v := ?_) rfl (by kernel_rfl) (by kernel_rfl) (by kernel_rfl) (fun _ _ _ h => h) (Or.inl ⟨by kernel_rfl, ?hy⟩) ?_
              case hy => (intro w'; go_simp; try with_reducible rfl)
              try simp only [Act.put, List.setIfInBounds_toArray, List.set_cons_zero, List.set_cons_succ, List.getElem_toArray, List.getElem_cons_zero, List.getElem_cons_succ]
              refine wpAny_done (by kernel_rfl) ?_ _
              have hbx2 := hbX.trans (hbq.mono hbX.size)
              go_wp2_with fail
              go_meet
              case rel => exact ⟨rfl, hbx2⟩
            -- REGION END
          case rest =>
            obtain ⟨rfl, hbw⟩ := hcut
            have HS8 := Lib.hid (HS6.out.below hbw)
            have HJ8 := Lib.hid (HJ6.out.below hbw)
            have HB8 := Lib.hid (below_from HB6.out hbw)
            have hbs8 : w2.heap.size ≤ wc.heap.size := HB8.out.size
            obtain ⟨cs0, _, _⟩ := store_cells HS8.out
            clear hbw
            have hnow0 : (0 : Int) ≤ (now : Int) := by omega
            obtain ⟨all, hall⟩ : ∃ all, all = (listT now F now ⟨#[]⟩).1 := ⟨_, rfl⟩
            have hlv : listV now F [(now : Int)] now ⟨#[]⟩ = (all, (listT now F now ⟨#[]⟩).2) := by
              rw [listV, if_neg (by rw [thereV, if_neg (by omega), if_neg (by omega)]; simp), hall]
            have HLV := Lib.hid hlv
            have HALL := Lib.hid hall
            clear hlv hall
            go_wp2_with fail
            refine (now_any g b now F wc HS8.out.tree).mono ?_
            rintro e w9 ⟨rfl, rfl⟩
            go_wp2_with fail
            refine (slist_any s g b pm now F [(now : Int)] now ⟨#[]⟩ all _ w9 (base := w2.heap.size) hwf (by decide) (by omega) HS8.out HLV.out).mono ?_
            rintro e w10 ⟨AL, cL, rfl, hcL, hl9, htr, _, hb10⟩
            have HJ10 := Lib.hid (HJ8.out.below hb10)
            have HB10 := Lib.hid (below_from HB8.out hb10)
            have hbs10 : w2.heap.size ≤ w10.heap.size := HB10.out.size
            have HT10 := Lib.hid htr
            clear htr hb10 cs0
            obtain ⟨j0, hj0, hjz0, hjz1, hjz2⟩ := info_parts infoTxt
            obtain ⟨pr, hpr⟩ : ∃ pr : ByteArray → Bool, pr = fun p => (beneathB ⟨#[114]⟩ p).2 && ((beneathB al' p).2 || (!root.toList.isEmpty && p.toList == al'.toList)) := ⟨_, rfl⟩
            have HPR := Lib.hid hpr
            clear hpr
            go_wp2_with fail
            go_loopw [11, 102] (fun ov i wr => ∃ k : Nat, k ≤ all.length ∧ i = .int .i64 k ∧ wr.ownsRow w10.heap.size 9 1 ov ((all.take k).filter pr).length (strs (((all.take k).filter pr).map (nameP ⟨#[114]⟩))) ∧ Below w10.heap.size w10 wr) (fun _ i _ => all.length - (intOf i).toNat)
            case atStart => exact ⟨0, by omega, rfl, ⟨rfl, .inl ⟨rfl, rfl⟩⟩, Below.refl _ _⟩
            case round =>
              obtain ⟨k, hk, rfl, how, hbw⟩ := hrel
              obtain ⟨wk, rfl⟩ : ∃ W, W = wr := ⟨wr, rfl⟩
              have HOW := Lib.hid how
              have HBW := Lib.hid hbw
              have hszk := hbw.size
              clear hbw
              by_cases hlt : k < all.length
              · obtain ⟨ad, hAL, hT⟩ := HT10.out (by omega)
                have x1 := cell_below HBW.out (hT k hlt)
                have htk := take_filter all pr k hlt
                have hkl : ((all.take k).filter pr).length ≤ k := Nat.le_trans (List.length_filter_le _ _) (by rw [List.length_take]; omega)
                have HTK := Lib.hid htk
                have HKL := Lib.hid hkl
                clear hT htk how hkl
                subst hAL
                obtain ⟨p, hp⟩ : ∃ p, p = all[k] := ⟨_, rfl⟩
                rw [← hp] at x1 HTK
                clear hp
                go_wp2_with fail
                refine (rbeneath_any al' p wk (by omega)).mono ?_
                rintro e wx ⟨rfl, rfl⟩
                go_wp2_with fail
                refine (rbeneath_any ⟨#[114]⟩ p wx (by decide)).mono ?_
                rintro e wy ⟨rfl, rfl⟩
                have hprp : pr p = ((beneathB ⟨#[114]⟩ p).2 && ((beneathB al' p).2 || (!root.toList.isEmpty && p.toList == al'.toList))) := by rw [HPR.out]
                obtain ⟨b1, hb1⟩ : ∃ b, b = (beneathB ⟨#[114]⟩ p).2 := ⟨_, rfl⟩
                obtain ⟨b2, hb2⟩ : ∃ b, b = (beneathB al' p).2 := ⟨_, rfl⟩
                obtain ⟨nm, hnm⟩ : ∃ nm, nm = (beneathB ⟨#[114]⟩ p).1 := ⟨_, rfl⟩
                rw [← hb1, ← hb2] at hprp ⊢
                rw [← hnm]
                have HPP := Lib.hid hprp
                have HNM := Lib.hid hnm
                clear hprp hb1 hb2 hnm x1
                go_upto_region 23 with fail
                go_cut [129] from 117 to 129 (fun t W => t = .bool (pr p) ∧ W = wy)
                case first =>
                  cases b1 with
                  | false =>
                    go_wp2_with fail
                    go_meet
                    case rel => exact ⟨by rw [HPP.out]; rfl, rfl⟩
                  | true =>
                    cases b2 with
                    | true =>
                      go_wp2_with fail
                      go_meet
                      case rel => exact ⟨by rw [HPP.out]; rfl, rfl⟩
                    | false =>
                      cases e3 : root.toList.isEmpty with
                      | true =>
                        go_wp2_with fail
                        go_meet
                        case rel => exact ⟨by rw [HPP.out, e3]; rfl, rfl⟩
                      | false =>
                        cases e4 : (p.toList == al'.toList) with
                        | true =>
                          go_wp2_with fail
                          go_meet
                          case rel => exact ⟨by rw [HPP.out, e3, e4]; rfl, rfl⟩
                        | false =>
                          go_wp2_with fail
                          go_meet
                          case rel => exact ⟨by rw [HPP.out, e3, e4]; rfl, rfl⟩
                case rest =>
                  obtain ⟨rfl, rfl⟩ := hcut
                  cases hq : pr p with
                  | false =>
                    have HQ := Lib.hid hq
                    clear hq
                    go_wp2_with fail
                    go_roundw
                    case rel => exact ⟨k + 1, by omega, by go_num, by rw [HTK.out, HQ.out]; simpa using HOW.out, HBW.out⟩
                    case measure => simp [intOf]; omega
                  | true =>
                    have HQ := Lib.hid hq
                    clear hq
                    have HOW1 := Lib.hid (own_stay HOW.out (below_one wc (.cells #[.string nm] 9)))
                    generalize hxs : strs (((all.take k).filter pr).map (nameP ⟨#[114]⟩)) = xs at *
                    generalize hnn : ((all.take k).filter pr).length = n at *
                    have hxl : xs.length = n := by rw [← hxs]; simp [strs, hnn]
                    have HXS := Lib.hid hxs
                    have HNN := Lib.hid hnn
                    have HXL := Lib.hid hxl
                    have hn9 : n ≤ 90000 := by have := HKL.out; omega
                    clear hxs hnn hxl
                    go_wp2_with (at_builtin; go_loud (refine wpList_append_own _ rfl (.tmp 130) (.tmp 132) 49 rfl w10.heap.size 9 j0 (.string ⟨#[]⟩) 1 16 Tryz.underlying49 hj0 hjz0 hjz1 hjz2 rfl (by decide) u11 n xs (by simp [Act.eval, Act.put]) HOW1.out ⟨wc.heap.size, 0, none⟩ 1 1 [.string nm] (by simp [Act.eval, Act.put]) rfl (cell_one_new _ _ _) (fun u hu => by (simp at hu; subst hu; rfl)) (by unfold maxLen; omega) (by omega) (by simp; omega) ?_); intro v5 w5 hown5 hg5 _)
                    have HB6 := Lib.hid ((HBW.out.trans ((below_one wc (.cells #[.string nm] 9)).mono HBW.out.size)).grown hg5 (by simp; omega) (fun j hj => (HOW1.out.lt j hj).1))
                    have hfin : w5.ownsRow w10.heap.size 9 1 v5 ((all.take (k + 1)).filter pr).length (strs (((all.take (k + 1)).filter pr).map (nameP ⟨#[114]⟩))) := by
                      rw [HTK.out, HQ.out, if_pos rfl, List.map_append, List.map_cons, List.map_nil, strs_snoc, HXS.out, List.length_append, HNN.out, nameP, ← HNM.out]
                      exact hown5
                    have HFIN := Lib.hid hfin
                    clear hown5 hg5 hfin
                    go_roundw
                    case rel => exact ⟨k + 1, by omega, by go_num, HFIN.out, HB6.out⟩
                    case measure => simp [intOf]; omega
              · obtain rfl : k = all.length := by omega
                rw [List.take_length] at how
                have hps2 : all.filter pr = ps := by
                  rw [HPS.out, wantP, ← HALL.out, HPR.out, ← HAL2.out]
                rw [hps2] at how
                have hpl : ps.length ≤ 90000 := by rw [← hps2]; exact Nat.le_trans (List.length_filter_le _ _) hl9
                obtain ⟨AW, cW, rfl, hcW, htw⟩ := own_row (xs := ps.map (nameP ⟨#[114]⟩)) (by rw [List.length_map]; exact how)
                rw [List.length_map] at hcW ⊢
                have HTW := Lib.hid htw
                have HJK := Lib.hid (HJ10.out.below HBW.out)
                have HBK := Lib.hid (below_from HB10.out HBW.out)
                clear how hps2 htw
                go_wp2_with fail
                refine (names_any ja s _ _ _ (ps.map (nameP ⟨#[114]⟩)) _ wk (by rw [List.length_map]; omega) HJK.out).mono ?_
                rintro e w11 ⟨AN, cN, rfl, hcN, _, htN, hb11⟩
                rw [List.length_map] at hcN ⊢
                have HTN := Lib.hid htN
                have HJ11 := Lib.hid (HJK.out.below hb11)
                have HTW11 := Lib.hid (HTW.out.below hb11)
                have HB11 := Lib.hid (below_from HBK.out hb11)
                clear htN hb11
                go_wp2_with fail
                refine (word_any ja s _ _ _ (ps.map (nameP ⟨#[114]⟩)) _ w11 (by rw [List.length_map]; omega) HJ11.out).mono ?_
                rintro e w12 ⟨cs, AP, cP, rfl, hwi, hcP, htP, hb12⟩
                rw [List.length_map] at hwi hcP
                have HWI := Lib.hid hwi
                have HTP := Lib.hid htP
                have HTN12 := Lib.hid (HTN.out.below hb12)
                have HTW12 := Lib.hid (HTW11.out.below hb12)
                have HJ12 := Lib.hid (HJ11.out.below hb12)
                have HB12 := Lib.hid (below_from HB11.out hb12)
                have HWT := Lib.hid (word_put w12 hwi)
                clear hwi htP hb12
                go_wp2_with ((refine wpList_store_mid rfl 67 (.tmp 21) (.tmp 138) rfl w12.heap.size 0 cs rfl rfl HWT.out.1 (by rw [HWI.out.size]; exact word_info) HWI.out.one ?_))
                obtain ⟨_, hb13, q0, q1, q3⟩ := HWT.out
                generalize hW13 : (w12.alloc (Obj.cells Tryz.zeroCells67 67)).setCells w12.heap.size 0 cs.toList = W13 at *
                have HJ13 := Lib.hid (HJ12.out.below hb13)
                have HTN13 := Lib.hid (HTN12.out.below hb13)
                have HTW13 := Lib.hid (HTW12.out.below hb13)
                have HTP13 := Lib.hid (HTP.out.below hb13)
                have HB13 := Lib.hid (below_from HB12.out hb13)
                have HVQ : Hid (∀ W, Below W13.heap.size W13 W → Calls Tryz.prog 18 #[.pointer (some ⟨ja, 0, none⟩)] W fun e w' => e = .returned (.int .i64 now) ∧ w' = W) := Lib.hid (fun W hW => version_any ja s _ _ _ _ _ W (HJ13.out.below hW))
                have hq : ((ps.length : Int) != (ps.length : Int)) = false := by simp
                have HQ3 := Lib.hid q3
                clear hb13 hW13
                go_quiet ((refine (HVQ.out _ (below_drewN (Below.refl _ _) _)).mono ?_; rintro e w2 ⟨rfl, rfl⟩; exact ⟨rfl, _, rfl⟩))
                have hbn : Below W13.heap.size W13 (W13.drewN nq) := below_drewN (Below.refl _ _) nq
                generalize hWN : W13.drewN nq = WN at *
                have HBN := Lib.hid hbn
                clear q0 q1 q3 hbn hWN hq
                go_wp2_with fail
                go_loopw [22, 166] (fun _ i wr => ∃ k : Nat, k ≤ ps.length ∧ i = .int .i64 k ∧ Below W13.heap.size W13 wr) (fun _ i _ => ps.length - (intOf i).toNat)
                case atStart => exact ⟨0, by omega, rfl, HBN.out⟩
                case round =>
                  obtain ⟨k, hk, rfl, hbr⟩ := hrel
                  obtain ⟨wk2, rfl⟩ : ∃ W, W = wr := ⟨wr, rfl⟩
                  by_cases hlt : k < ps.length
                  · have hln : k < (ps.map (nameP ⟨#[114]⟩)).length := by rw [List.length_map]; exact hlt
                    obtain ⟨a1, rfl, t1⟩ := HTN13.out (by omega)
                    obtain ⟨a2, rfl, t2⟩ := HTW13.out (by omega)
                    obtain ⟨a3, rfl, t3⟩ := HTP13.out (by omega)
                    have z1 := cell_below hbr (t1 k hln)
                    have z2 := cell_below hbr (t2 k hln)
                    have z3 := cell_below hbr (t3 k hln)
                    have z4 := cell_below hbr HQ3.out
                    generalize (ps.map (nameP ⟨#[114]⟩))[k] = nm at *
                    have HBR := Lib.hid hbr
                    have hi0 : (0 : Int) ≤ (k : Int) := by omega
                    have hi1 : (k : Int) < (ps.length : Int) := by omega
                    clear t1 t2 t3 hbr
                    go_wp2_with fail
                    go_quiet (fail)
                    go_wp2_with fail
                    go_roundw
                    case rel => exact ⟨k + 1, by omega, by go_num, below_drewN HBR.out _⟩
                    case measure => simp [intOf]; omega
                  · obtain rfl : k = ps.length := by omega
                    have HBE := Lib.hid (below_from HB13.out hbr)
                    clear hbr
                    go_wp2_with fail
                    go_ret
                    exact ⟨rfl, HB2.out.trans (HBE.out.mono hbs2)⟩
    · have dl6 : decide ((100 : Int) < (root.size : Int)) = true := by simp; omega
      go_enter Tryz.func3, Tryz.ntmps3
      go_wp2_with fail
      refine HK.out.mono ?_
      rintro e w1 ⟨rfl, hb1⟩
      go_wp2_with fail
      refine (HF.out w1 hb1).mono ?_
      rintro e w2 ⟨rfl, hb2⟩
      go_wp2_with fail
      go_ret
      exact ⟨rfl, below_from hb1 hb2⟩
end Go.Proofs.YtkplkienbgoofaaGreatDoor

namespace Go.Proofs.YtkplkienbgoofaaGreatDoor
open Go.ChangeShapes Go.WideShapes Go.ChangeAt Go.RowKit
open Go.ChangeMaps (open_string shut_string)
open Go.Proofs.YtkplkienbgoofaaGreatDoorW.PrintWords (Kd ReadsRow)
set_option maxRecDepth 100000 in
theorem pullLists_lifted (os : Os) (started : os.Started) (H : Type) (enc : TypeId × Value → H) :
    ReturnsInHanded {} Tryz.checked os 3 .any (fun w args => (Rows.pullListsSpec.pre enc Tryz.prog Tryz.f3 Rows.pullListsRow.domain false w args ∧ laidMetH Tryz.prog laid3 w) ∧ sizedMet enc Tryz.prog Tryz.f3 (OpenSpec.ofChange Rows.pullListsSpec) false w args) (Rows.pullListsSpec.post enc Tryz.prog Tryz.f3 false true false false) := by
  refine returns_and_shaped (C := Tryz.checked) (X := fun w _ => laidMetH Tryz.prog laid3 w) (fun _ _ _ hh h => h.of_heap hh) own started (by kernel_rfl) Tryz.func3
    (ChangeSpec.witness_shaped (enc := enc) (C := Tryz.checked) (os := os) (X := fun w _ => laidMetH Tryz.prog laid3 w) false (wit os) #[.slice none 0 0, .string ByteArray.empty] 8 (wit_os os) (wit_shaped os _) (by kernel_rfl) (by kernel_rfl) (by kernel_rfl) (wit_met os _)) ?_
  intro W base args ds gs before hval0 hW hcnd hsz0 hL hsh _
  have hsz : (DataW.weightsEach Tryz.prog (Tryz.f3.params.toList ++ Rows.pullListsSpec.plain.varTypes Tryz.prog) (ds ++ gs)).all (· ≤ reachBytes) = true := hsz0
  have hval : ∀ (j : Nat) t v, Tryz.f3.params[j]? = some t → args[j]? = some v → Value.okWide Tryz.prog W .any base t v := hval0
  have hW' := hW
  obtain ⟨p, q, hA0, hV, rfl, hfz, hnd⟩ := hW
  have hA : DataW.TrodAll enc Tryz.prog W 0 (fun _ => true) true Tryz.f3.params.toList args.toList ds p := hA0
  rw [Tryz.params3] at hA hval hsz
  obtain ⟨v0, vs0, d0, ds0, p0, q0, hargs, rfl, rfl, h0, r0⟩ := trodAll_cons hA
  obtain ⟨v1, vs1, d1, ds1, p1, q1, rfl, rfl, rfl, h1, r1⟩ := trodAll_cons r0
  obtain ⟨rfl, rfl, rfl⟩ := trodAll_nil r1
  obtain rfl : args = #[v0, v1] := by cases args; simp_all
  obtain ⟨rfl, rfl⟩ := trodVars_none hV
  obtain ⟨a0, len0, cap0, rfl⟩ := okWide_slice Tryz.underlying22 (hval 0 22 v0 rfl rfl)
  have k0 := h0
  have lt0 : ∀ x ∈ p0, x.block < W.heap.size := by obtain ⟨m, hm⟩ := k0; exact DataW.trod_lt m _ _ _ hm
  obtain ⟨l0, w0, g0⟩ := arg_slice (d := (Kd.pair Kd.string (Kd.pair (Kd.slice 5 (Kd.int .u8)) Kd.bool))) Tryz.underlying22 (by kernel_rfl) (opens_struct Tryz.underlying90 (by kernel_rfl) (opensF_cons rfl (by kernel_rfl) (opens_string Tryz.underlying9) (opensF_cons rfl (by kernel_rfl) (opens_slice Tryz.underlying59 (by kernel_rfl) (opens_int Tryz.underlying5)) (opensF_last rfl (by kernel_rfl) (opens_bool Tryz.underlying4))))) h0
  obtain ⟨a1, rfl, rfl, rfl, y1⟩ := open_string Tryz.underlying9 (hval 1 9 v1 rfl rfl) h1
  have w1 : a1.size ≤ 140737488351232 := by
    have z := sized_string hsz (j := 1) (t := 9) rfl rfl
    rw [Array.length_toList] at z
    exact z
  clear hA0 hval0 hsz0 hsz
  refine (pullLists_walk _ l0 a1 W w0 g0 w1 ⟨et_of_laid hL, envM_of_shaped hsh⟩).mono fun e W' ⟨he, bel⟩ => ?_
  subst he
  exact ⟨_, rfl, _, _, _, [], _, [], hW', trodAll_mk1 (shut_bool Tryz.underlying4 _), (trodAll_cons_mk (Below.trod laidOut (by kernel_rfl) (of_decide_eq_true (by kernel_rfl)) k0 bel lt0) (trodAll_cons_mk (shut_string Tryz.underlying9 y1) trodAll_mk0)), rfl, bel.frame _, fun h => by cases h⟩
theorem pullLists_holds : Rows.PullListsSaid :=
  OpenClaim.holds_of_wide 3 Tryz.f3 rfl rfl rfl rfl rfl rfl rfl ⟨rfl, rfl, rfl, rfl, rfl⟩ rfl rfl rfl rfl rfl (by kernel_rfl) Tryz.func3 (by kernel_rfl)
    (of_decide_eq_true (by kernel_rfl)) (by unfold Func.isWrapper; first | (rw [if_pos (by decide +kernel)]; kernel_rfl) | (rw [if_neg (by decide +kernel)]; exact ⟨rfl, rfl⟩))
    (fun os started H enc _ => pullLists_lifted os started H enc)
theorem pullLists_card : Rows.PullListsCardSaid :=
  Claim7.holds_tied_plain_at .later [] [.data, .handle, .pinned] true (true, "f0e1cdd676cfa843de0201abc3b42fd006f9e7e391967dac6a390d833e3e481a") true
    pullLists_holds (fun _ h => by cases h) (by kernel_rfl) (fun _ h => by cases h) pullLists_row_tie rfl ⟨rfl, rfl⟩ (by kernel_rfl) rfl
    (fun f fn hf hfn => by
      obtain rfl : f = 3 := Option.some.inj ((show Tryz.prog.funcNamed "wharfinger/wharfingerlaw18.PullLists" = some 3 by kernel_rfl).symm.trans hf) |>.symm
      obtain rfl : fn = Tryz.f3 := (Option.some.inj (Tryz.func3.symm.trans hfn)).symm
      exact ⟨by kernel_rfl, fun j t ht => by
        rw [Tryz.params3] at ht
        have hm : t ∈ [22, 9] := by simpa using Array.mem_of_getElem? ht
        have hall : ([22, 9].all fun u => !Tryz.prog.wantsStandIn u) = true := by kernel_rfl
        exact (show Tryz.prog.wantsStandIn t = false by simpa using List.all_eq_true.1 hall t hm)⟩)
    (by kernel_rfl)
#print axioms pullLists_card
end Go.Proofs.YtkplkienbgoofaaGreatDoor

