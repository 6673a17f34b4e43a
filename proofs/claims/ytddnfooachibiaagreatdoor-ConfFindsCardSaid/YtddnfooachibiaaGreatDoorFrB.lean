/-
  A frame by blocks: all but some blocks stays.
-/
import Derived.Test.YtddnfooachibiaaGreatDoorOffRow
import Derived.Test.YtddnfooachibiaaGreatDoorMaps
set_option linter.unusedVariables false
set_option linter.unusedSimpArgs false
namespace Go.Proofs.YtddnfooachibiaaGreatDoor
open Go.RowKit Go.Maps Go.WideMaps Go.WideAt
/-- All but some blocks stays. -/
structure FrB (S : Nat → Prop) (w w' : World) : Prop where
  os : w'.os = w.os
  tape : w'.tape = w.tape
  output : w'.output = w.output
  size : w.heap.size ≤ w'.heap.size
  block : ∀ k, k < w.heap.size → ¬ S k → w'.heap[k]? = w.heap[k]?
theorem FrB.refl (S : Nat → Prop) (w : World) : FrB S w w := ⟨rfl, rfl, rfl, Nat.le_refl _, fun _ _ _ => rfl⟩
theorem FrB.of_below {S : Nat → Prop} {w w' : World} (h : Below w.heap.size w w') : FrB S w w' := ⟨h.os, h.tape, h.output, h.size, fun k hk _ => h.block k hk⟩
theorem FrB.of_grown {S : Nat → Prop} {w w' : World} {row : Option Nat} (h : w.grownBy w' row) (hr : ∀ b, row = some b → b < w.heap.size → S b) : FrB S w w' := ⟨h.os, h.tape, h.output, h.size, fun k hk hn => h.block k hk (fun e => hn (hr k e.symm hk))⟩
theorem FrB.trans {S S' : Nat → Prop} {w w1 w2 : World} (h1 : FrB S w w1) (h2 : FrB S' w1 w2) (hs : ∀ k, k < w.heap.size → S' k → S k) : FrB S w w2 :=
  ⟨h2.os.trans h1.os, h2.tape.trans h1.tape, h2.output.trans h1.output, Nat.le_trans h1.size h2.size, fun k hk hn => (h2.block k (Nat.lt_of_lt_of_le hk h1.size) (fun h => hn (hs k hk h))).trans (h1.block k hk hn)⟩
theorem FrB.mono {S S' : Nat → Prop} {w w' : World} (h : FrB S w w') (hs : ∀ k, k < w.heap.size → S k → S' k) : FrB S' w w' := ⟨h.os, h.tape, h.output, h.size, fun k hk hn => h.block k hk (fun h => hn (hs k hk h))⟩
theorem FrB.below {S : Nat → Prop} {w w' : World} {B : Nat} (h : FrB S w w') (hB : B ≤ w.heap.size) (hS : ∀ k, S k → B ≤ k) : Below B w w' :=
  ⟨h.os, h.tape, h.output, h.size, fun k hk => h.block k (by omega) (fun hs => by have := hS k hs; omega)⟩
theorem FrB.set {S : Nat → Prop} {w : World} {b n : Nat} (v : Value) (hb : S b) : FrB S w (w.setCell ⟨b, n, none⟩ v) := ⟨rfl, rfl, rfl, by simp, fun k _ hn => Below.heap_setCell w ⟨b, n, none⟩ _ k (fun e => hn (by rw [e]; exact hb))⟩
theorem FrB.own {S : Nat → Prop} {w w' : World} (h : FrB S w w') {base size n : Nat} {e : TypeId} {v : Value} {xs : List Value} (ho : w.ownsRow base e size v n xs) (hne : ∀ b, v.ownBlock = some b → ¬ S b) : w'.ownsRow base e size v n xs := by
  obtain ⟨a, c⟩ := ho
  refine ⟨a, ?_⟩
  rcases c with c | ⟨g, cap, cur, rfl, hbb, hg, r⟩
  · exact .inl c
  · exact .inr ⟨g, cap, cur, rfl, hbb, (h.block g (lt_of_block hg) (hne g rfl)).trans hg, r⟩
theorem FrB.off {S : Nat → Prop} {w w' : World} (h : FrB S w w') {base size n : Nat} {e : TypeId} {v : Value} {xs : List Value} (ho : OffRow w base e size v n xs) (hne : ∀ b, v.ownBlock = some b → ¬ S b) : OffRow w' base e size v n xs := by
  obtain ⟨a, c⟩ := ho
  refine ⟨a, ?_⟩
  rcases c with c | ⟨g, off, cap, cur, rfl, hbb, hg, r⟩
  · exact .inl c
  · exact .inr ⟨g, off, cap, cur, rfl, hbb, (h.block g (lt_of_block hg) (hne g rfl)).trans hg, r⟩
theorem FrB.at_ {S : Nat → Prop} {w w' : World} (h : FrB S w w') {k : Nat} {o : Obj} (ho : w.heap[k]? = some o) (hne : ¬ S k) : w'.heap[k]? = some o := (h.block k (lt_of_block ho) hne).trans ho
/-- Are some blocks rows of some types? -/
def OfTypes (w : World) (S : Nat → Prop) (ts : List TypeId) : Prop := ∀ k, S k → k < w.heap.size → ∃ cs t fr, w.heap[k]? = some (Obj.cells cs t fr) ∧ t ∈ ts
theorem OfTypes.cells {w : World} {S : Nat → Prop} {ts : List TypeId} (h : OfTypes w S ts) {k : Nat} {cs : Array Value} {t : TypeId} {fr : Nat × Nat} (hk : w.heap[k]? = some (Obj.cells cs t fr)) (ht : t ∉ ts) : ¬ S k := fun hs => by
  obtain ⟨cs2, t2, fr2, h1, h2⟩ := h k hs (lt_of_block hk)
  rw [hk] at h1
  injection h1 with h1
  injection h1 with _ h3
  exact ht (h3 ▸ h2)
theorem OfTypes.map {w : World} {S : Nat → Prop} {ts : List TypeId} (h : OfTypes w S ts) {k : Nat} {es : Array MapEntry} {ck : Nat} (hk : w.heap[k]? = some (Obj.map es ck)) : ¬ S k := fun hs => by
  obtain ⟨cs2, t2, fr2, h1, h2⟩ := h k hs (lt_of_block hk)
  rw [hk] at h1
  cases h1
theorem OfTypes.row {w : World} {S : Nat → Prop} {ts : List TypeId} (h : OfTypes w S ts) {base size n : Nat} {e : TypeId} {v : Value} {xs : List Value} (ho : w.ownsRow base e size v n xs) (ht : e ∉ ts) : ∀ b, v.ownBlock = some b → ¬ S b := fun b hb => by
  rcases ho.2 with ⟨rfl, _⟩ | ⟨k, cap, cur, rfl, _, hh, _⟩
  · simp [Value.ownBlock] at hb
  · have : k = b := by simpa [Value.ownBlock] using hb
    subst this
    exact h.cells hh ht
theorem OfTypes.offRow {w : World} {S : Nat → Prop} {ts : List TypeId} (h : OfTypes w S ts) {base size n : Nat} {e : TypeId} {v : Value} {xs : List Value} (ho : OffRow w base e size v n xs) (ht : e ∉ ts) : ∀ b, v.ownBlock = some b → ¬ S b := fun b hb => by
  obtain ⟨cur, hc⟩ := ho.blk b hb
  exact h.cells hc ht
theorem FrB.mapAs {S : Nat → Prop} {w w' : World} (h : FrB S w w') {P : Program} {k : TypeId} {b n : Nat} {m : Lit → Option Value} (hm : MapAs w P k b n m) (hne : ¬ S b) : MapAs w' P k b n m := by
  obtain ⟨es, ck, hb⟩ := hm.isMap
  exact hm.block (h.block b (lt_of_block hb) hne)
end Go.Proofs.YtddnfooachibiaaGreatDoor
