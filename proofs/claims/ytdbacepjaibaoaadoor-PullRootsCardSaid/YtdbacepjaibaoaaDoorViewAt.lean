/-
  A store of versions in memory; New, States; sorted keys of a map of ints.
-/
import Derived.Test.YtdbacepjaibaoaaDoorTreeScript
import Derived.Test.YtdbacepjaibaoaaDoorIter
set_option linter.unusedVariables false
set_option linter.unusedSimpArgs false
namespace Go.Proofs.YtdbacepjaibaoaaDoor
open Go.RowKit Go.Maps Go.WideMaps Go.WideAt
open Go.Proofs.YtdbacepjaibaoaaDoorW.PrintWords (Kd ReadsRow)
def keyI (v : Int) : Lit := .int .i64 v
theorem keyI_same (a b : Int) : (keyI a).sameKey (keyI b) = decide (a = b) := by
  unfold keyI
  by_cases h : a = b
  · subst h; simp [Lit.sameKey]
  · simp [Lit.sameKey, h]
theorem keyI_ne {a b : Int} (h : a ≠ b) : keyI a ≠ keyI b := fun e => by
  injection e with _ e
  exact h e
theorem zeroIntV (w : World) : (zeroValue 3).run Tryd.prog w = .ok (.int .i64 0) w := by kernel_rfl
theorem intKeyed : Keyed Tryd.prog 3 := int_keyed Tryd.underlying3
/-- How often each version is looked at. -/
structure PinsIn (m : Lit → Option Value) (L : List Int) : Prop where
  val : ∀ v : Int, m (keyI v) = if L.count v = 0 then none else some (.int .i64 ((L.count v : Nat) : Int))
  oth : ∀ kl, (∀ v, kl ≠ keyI v) → m kl = none
theorem PinsIn.some {m : Lit → Option Value} {L : List Int} (h : PinsIn m L) (v : Int) : (m (keyI v)).isSome = true ↔ v ∈ L := by
  rw [h.val v]
  by_cases hc : L.count v = 0
  · rw [if_pos hc]
    have := List.count_eq_zero.1 hc
    simp [this]
  · rw [if_neg hc]
    have : v ∈ L := List.count_pos_iff.1 (by omega)
    simp [this]
theorem PinsIn.get {m : Lit → Option Value} {L : List Int} (h : PinsIn m L) (v : Int) : (m (keyI v)).getD (.int .i64 0) = .int .i64 ((L.count v : Nat) : Int) := by
  rw [h.val v]
  by_cases hc : L.count v = 0
  · rw [if_pos hc, hc]; rfl
  · rw [if_neg hc]; rfl
theorem pins_none : PinsIn (fun _ => none) [] := ⟨fun v => by simp, fun _ _ => rfl⟩
theorem PinsIn.keys {m : Lit → Option Value} {L : List Int} (h : PinsIn m L) (kl : Lit) (hk : (m kl).isSome = true) : kl ∈ L.map keyI := by
  by_cases e : ∃ v, kl = keyI v
  · obtain ⟨v, rfl⟩ := e
    exact List.mem_map.2 ⟨v, (h.some v).1 hk, rfl⟩
  · rw [h.oth kl (fun v e2 => e ⟨v, e2⟩)] at hk
    cases hk
structure StoreAt (w : World) (base s g b pm now : Nat) (F : List FileS) (L : List Int) : Prop where
  cell : w.heap[s]? = some (Obj.cells #[.pointer (some ⟨g, 0, none⟩), .map (some pm), .int .i64 ((L.length : Nat) : Int)] 84 (0, 0))
  hs : base ≤ s
  hp : base ≤ pm
  ne : pm ≠ b
  tree : TreeAt w base g b now F
  pins : ∃ m, MapAs w Tryd.prog 3 pm L.length m ∧ PinsIn m L
theorem StoreAt.below {w w' : World} {base s g b pm now : Nat} {F : List FileS} {L : List Int} (h : StoreAt w base s g b pm now F L) (hb : Below w.heap.size w w') : StoreAt w' base s g b pm now F L :=
  ⟨(hb.block s (lt_of_block h.cell)).trans h.cell, h.hs, h.hp, h.ne, h.tree.below hb, h.pins.elim fun m ⟨h1, h2⟩ => ⟨m, h1.below hb, h2⟩⟩
/-- All but a store's own blocks stays. -/
structure SFrame (w w' : World) : Prop where
  size : w.heap.size ≤ w'.heap.size
  block : ∀ (k : Nat) (cells : Array Value) (t : TypeId) (fr : Nat × Nat), w.heap[k]? = some (Obj.cells cells t fr) → t ≠ 119 → t ≠ 124 → t ≠ 84 → w'.heap[k]? = some (Obj.cells cells t fr)
theorem SFrame.refl (w : World) : SFrame w w := ⟨Nat.le_refl _, fun _ _ _ _ h _ _ _ => h⟩
theorem SFrame.trans {x y z : World} (h1 : SFrame x y) (h2 : SFrame y z) : SFrame x z := ⟨Nat.le_trans h1.size h2.size, fun k c t fr h a b d => h2.block k c t fr (h1.block k c t fr h a b d) a b d⟩
theorem SFrame.of_below {w w' : World} (h : Below w.heap.size w w') : SFrame w w' := ⟨h.size, fun k c t fr hk _ _ _ => (h.block k (lt_of_block hk)).trans hk⟩
theorem SFrame.of_tree {b : Nat} {w w' : World} (h : TFrame b w w') (hb : ∀ cs t fr, w.heap[b]? ≠ some (Obj.cells cs t fr)) : SFrame w w' := ⟨h.size, fun k c t fr hk h1 h2 _ => (h.block k (lt_of_block hk) (fun e => hb _ _ _ (e ▸ hk)) (fun cells t' hc => by
  rw [hk] at hc
  injection hc with hc
  injection hc with _ e2
  rw [← e2]
  exact ⟨h1, h2⟩)).trans hk⟩
theorem SFrame.of_map {b : Nat} {w w' : World} (h : w.grownBy w' (some b)) (hb : ∀ cs t fr, w.heap[b]? ≠ some (Obj.cells cs t fr)) : SFrame w w' := ⟨h.size, fun k c t fr hk _ _ _ => (h.block k (lt_of_block hk) (fun e => by injection e with e; exact hb _ _ _ (e ▸ hk))).trans hk⟩
theorem SFrame.own {w w' : World} (h : SFrame w w') {base size n : Nat} {e : TypeId} {v : Value} {xs : List Value} (ho : w.ownsRow base e size v n xs) (h1 : e ≠ 119) (h2 : e ≠ 124) (h3 : e ≠ 84) : w'.ownsRow base e size v n xs := by
  obtain ⟨a, c⟩ := ho
  refine ⟨a, ?_⟩
  rcases c with c | ⟨g, cap, cur, rfl, hbb, hg, r⟩
  · exact .inl c
  · exact .inr ⟨g, cap, cur, rfl, hbb, h.block g cur e (0, 0) hg h1 h2 h3, r⟩
theorem map_noCells {w : World} {b : Nat} {es : Array MapEntry} {ck : Nat} (h : w.heap[b]? = some (.map es ck)) : ∀ cs t fr, w.heap[b]? ≠ some (Obj.cells cs t fr) := fun cs t fr e => by
  rw [h] at e
  cases e
theorem StoreAt.pmNo {w : World} {base s g b pm now : Nat} {F : List FileS} {L : List Int} (h : StoreAt w base s g b pm now F L) : ∀ cs t fr, w.heap[pm]? ≠ some (Obj.cells cs t fr) := by
  obtain ⟨m, h1, _⟩ := h.pins
  obtain ⟨es, ck, hm⟩ := h1.isMap
  exact map_noCells hm
theorem store_cells {w : World} {base s g b pm now : Nat} {F : List FileS} {L : List Int} (h : StoreAt w base s g b pm now F L) : w.cell? ⟨s, 0, none⟩ = some (.pointer (some ⟨g, 0, none⟩)) ∧ w.cell? ⟨s, 1, none⟩ = some (.map (some pm)) ∧ w.cell? ⟨s, 2, none⟩ = some (.int .i64 ((L.length : Nat) : Int)) := by
  refine ⟨?_, ?_, ?_⟩ <;> simp [World.cell?, h.cell]
/-- A new one. -/
theorem new_store (w : World) : Calls Tryd.prog 15 #[] w fun e w' => ∃ s g b pm, e = .returned (.pointer (some ⟨s, 0, none⟩)) ∧ StoreAt w' w.heap.size s g b pm 0 [] [] ∧ Below w.heap.size w w' := by
  have hmm := @run_makeMap Tryd.prog
  go_enter Tryd.func15, Tryd.ntmps15
  go_wp2_with fail
  refine (new_tree w).mono ?_
  rintro e w1 ⟨g, b, rfl, ht1, hb1⟩
  have HT := Lib.hid ht1
  have HB := Lib.hid hb1
  have hm0 := mapAs_new w1 Tryd.prog 3
  have HM := Lib.hid hm0
  have hbm := below_one w1 (.map #[] 0)
  have HBM := Lib.hid hbm
  clear ht1 hb1 hm0 hbm
  go_wp2_with fail
  go_ret
  have hb2 := below_one (w1.alloc (.map #[] 0)) (.cells #[.pointer (some ⟨g, 0, none⟩), .map (some w1.heap.size), .int .i64 0] 84)
  have hnew := heap_alloc_new (w1.alloc (.map #[] 0)) (.cells #[.pointer (some ⟨g, 0, none⟩), .map (some w1.heap.size), .int .i64 0] 84)
  have hsz : (w1.alloc (.map #[] 0)).heap.size = w1.heap.size + 1 := by simp
  rw [hsz] at hnew
  have hsw := HB.out.size
  refine ⟨_, g, b, w1.heap.size, rfl, ⟨hnew, by omega, hsw, ?_, (HT.out.below HBM.out).below hb2, _, HM.out.below hb2, pins_none⟩, below_from HB.out (below_from HBM.out hb2)⟩
  have := HT.out.map.lt
  omega
end Go.Proofs.YtdbacepjaibaoaaDoor
