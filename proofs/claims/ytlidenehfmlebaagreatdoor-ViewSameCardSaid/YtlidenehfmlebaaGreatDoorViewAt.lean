/-
  A store of versions in memory; New, States; sorted keys of a map of ints.
-/
import Derived.Test.YtlidenehfmlebaaGreatDoorTreeScript
import Derived.Test.YtlidenehfmlebaaGreatDoorIter
set_option linter.unusedVariables false
set_option linter.unusedSimpArgs false
namespace Go.Proofs.YtlidenehfmlebaaGreatDoor
open Go.RowKit Go.Maps Go.WideMaps Go.WideAt
open Go.Proofs.YtlidenehfmlebaaGreatDoorW.PrintWords (Kd ReadsRow)
def keyI (v : Int) : Lit := .int .i64 v
theorem keyI_same (a b : Int) : (keyI a).sameKey (keyI b) = decide (a = b) := by
  unfold keyI
  by_cases h : a = b
  · subst h; simp [Lit.sameKey]
  · simp [Lit.sameKey, h]
theorem keyI_ne {a b : Int} (h : a ≠ b) : keyI a ≠ keyI b := fun e => by
  injection e with _ e
  exact h e
theorem zeroIntV (w : World) : (zeroValue 3).run Tryz.prog w = .ok (.int .i64 0) w := by kernel_rfl
theorem intKeyed : Keyed Tryz.prog 3 := int_keyed Tryz.underlying3
/-- How often each version is looked at. -/
structure PinsIn (m : Lit → Option Value) (L : List Int) : Prop where
  val : ∀ v : Int, m (keyI v) = if L.count v = 0 then none else some (.int .i64 ((L.count v : Nat) : Int))
  oth : ∀ kl, (∀ v, kl ≠ keyI v) → m kl = none
theorem PinsIn.some {m : Lit → Option Value} {L : List Int} (h : PinsIn m L) (v : Int) : (m (keyI v)).isSome = true ↔ v ∈ L := by
  rw [h.val v]
  by_cases hc : L.count v = 0
  · rw [if_pos hc]
    have := List.count_eq_zero.1 hc
    simp [this]
  · rw [if_neg hc]
    have : v ∈ L := List.count_pos_iff.1 (by omega)
    simp [this]
theorem PinsIn.get {m : Lit → Option Value} {L : List Int} (h : PinsIn m L) (v : Int) : (m (keyI v)).getD (.int .i64 0) = .int .i64 ((L.count v : Nat) : Int) := by
  rw [h.val v]
  by_cases hc : L.count v = 0
  · rw [if_pos hc, hc]; rfl
  · rw [if_neg hc]; rfl
theorem pins_none : PinsIn (fun _ => none) [] := ⟨fun v => by simp, fun _ _ => rfl⟩
theorem PinsIn.keys {m : Lit → Option Value} {L : List Int} (h : PinsIn m L) (kl : Lit) (hk : (m kl).isSome = true) : kl ∈ L.map keyI := by
  by_cases e : ∃ v, kl = keyI v
  · obtain ⟨v, rfl⟩ := e
    exact List.mem_map.2 ⟨v, (h.some v).1 hk, rfl⟩
  · rw [h.oth kl (fun v e2 => e ⟨v, e2⟩)] at hk
    cases hk
structure StoreAt (w : World) (base s g b pm now : Nat) (F : List FileS) (L : List Int) : Prop where
  cell : w.heap[s]? = some (Obj.cells #[.pointer (some ⟨g, 0, none⟩), .map (some pm), .int .i64 ((L.length : Nat) : Int)] 46 (0, 0))
  hs : base ≤ s
  hp : base ≤ pm
  ne : pm ≠ b
  tree : TreeAt w base g b now F
  pins : ∃ m, MapAs w Tryz.prog 3 pm L.length m ∧ PinsIn m L
theorem StoreAt.below {w w' : World} {base s g b pm now : Nat} {F : List FileS} {L : List Int} (h : StoreAt w base s g b pm now F L) (hb : Below w.heap.size w w') : StoreAt w' base s g b pm now F L :=
  ⟨(hb.block s (lt_of_block h.cell)).trans h.cell, h.hs, h.hp, h.ne, h.tree.below hb, h.pins.elim fun m ⟨h1, h2⟩ => ⟨m, h1.below hb, h2⟩⟩
/-- All but a store's own blocks stays. -/
structure SFrame (w w' : World) : Prop where
  size : w.heap.size ≤ w'.heap.size
  block : ∀ (k : Nat) (cells : Array Value) (t : TypeId) (fr : Nat × Nat), w.heap[k]? = some (Obj.cells cells t fr) → t ≠ 106 → t ≠ 157 → t ≠ 46 → w'.heap[k]? = some (Obj.cells cells t fr)
theorem SFrame.refl (w : World) : SFrame w w := ⟨Nat.le_refl _, fun _ _ _ _ h _ _ _ => h⟩
theorem SFrame.trans {x y z : World} (h1 : SFrame x y) (h2 : SFrame y z) : SFrame x z := ⟨Nat.le_trans h1.size h2.size, fun k c t fr h a b d => h2.block k c t fr (h1.block k c t fr h a b d) a b d⟩
theorem SFrame.of_below {w w' : World} (h : Below w.heap.size w w') : SFrame w w' := ⟨h.size, fun k c t fr hk _ _ _ => (h.block k (lt_of_block hk)).trans hk⟩
theorem SFrame.of_tree {b : Nat} {w w' : World} (h : TFrame b w w') (hb : ∀ cs t fr, w.heap[b]? ≠ some (Obj.cells cs t fr)) : SFrame w w' := ⟨h.size, fun k c t fr hk h1 h2 _ => (h.block k (lt_of_block hk) (fun e => hb _ _ _ (e ▸ hk)) (fun cells t' hc => by
  rw [hk] at hc
  injection hc with hc
  injection hc with _ e2
  rw [← e2]
  exact ⟨h1, h2⟩)).trans hk⟩
theorem SFrame.of_map {b : Nat} {w w' : World} (h : w.grownBy w' (some b)) (hb : ∀ cs t fr, w.heap[b]? ≠ some (Obj.cells cs t fr)) : SFrame w w' := ⟨h.size, fun k c t fr hk _ _ _ => (h.block k (lt_of_block hk) (fun e => by injection e with e; exact hb _ _ _ (e ▸ hk))).trans hk⟩
theorem SFrame.own {w w' : World} (h : SFrame w w') {base size n : Nat} {e : TypeId} {v : Value} {xs : List Value} (ho : w.ownsRow base e size v n xs) (h1 : e ≠ 106) (h2 : e ≠ 157) (h3 : e ≠ 46) : w'.ownsRow base e size v n xs := by
  obtain ⟨a, c⟩ := ho
  refine ⟨a, ?_⟩
  rcases c with c | ⟨g, cap, cur, rfl, hbb, hg, r⟩
  · exact .inl c
  · exact .inr ⟨g, cap, cur, rfl, hbb, h.block g cur e (0, 0) hg h1 h2 h3, r⟩
theorem map_noCells {w : World} {b : Nat} {es : Array MapEntry} {ck : Nat} (h : w.heap[b]? = some (.map es ck)) : ∀ cs t fr, w.heap[b]? ≠ some (Obj.cells cs t fr) := fun cs t fr e => by
  rw [h] at e
  cases e
theorem StoreAt.pmNo {w : World} {base s g b pm now : Nat} {F : List FileS} {L : List Int} (h : StoreAt w base s g b pm now F L) : ∀ cs t fr, w.heap[pm]? ≠ some (Obj.cells cs t fr) := by
  obtain ⟨m, h1, _⟩ := h.pins
  obtain ⟨es, ck, hm⟩ := h1.isMap
  exact map_noCells hm
theorem store_cells {w : World} {base s g b pm now : Nat} {F : List FileS} {L : List Int} (h : StoreAt w base s g b pm now F L) : w.cell? ⟨s, 0, none⟩ = some (.pointer (some ⟨g, 0, none⟩)) ∧ w.cell? ⟨s, 1, none⟩ = some (.map (some pm)) ∧ w.cell? ⟨s, 2, none⟩ = some (.int .i64 ((L.length : Nat) : Int)) := by
  refine ⟨?_, ?_, ?_⟩ <;> simp [World.cell?, h.cell]
/-- A new one. -/
theorem new_store (w : World) : Calls Tryz.prog 8 #[] w fun e w' => ∃ s g b pm, e = .returned (.pointer (some ⟨s, 0, none⟩)) ∧ StoreAt w' w.heap.size s g b pm 0 [] [] ∧ Below w.heap.size w w' := by
  have hmm := @run_makeMap Tryz.prog
  go_enter Tryz.func8, Tryz.ntmps8
  go_wp2_with fail
  refine (new_tree w).mono ?_
  rintro e w1 ⟨g, b, rfl, ht1, hb1⟩
  have HT := Lib.hid ht1
  have HB := Lib.hid hb1
  have hm0 := mapAs_new w1 Tryz.prog 3
  have HM := Lib.hid hm0
  have hbm := below_one w1 (.map #[] 0)
  have HBM := Lib.hid hbm
  clear ht1 hb1 hm0 hbm
  go_wp2_with fail
  go_ret
  have hb2 := below_one (w1.alloc (.map #[] 0)) (.cells #[.pointer (some ⟨g, 0, none⟩), .map (some w1.heap.size), .int .i64 0] 46)
  have hnew := heap_alloc_new (w1.alloc (.map #[] 0)) (.cells #[.pointer (some ⟨g, 0, none⟩), .map (some w1.heap.size), .int .i64 0] 46)
  have hsz : (w1.alloc (.map #[] 0)).heap.size = w1.heap.size + 1 := by simp
  rw [hsz] at hnew
  have hsw := HB.out.size
  refine ⟨_, g, b, w1.heap.size, rfl, ⟨hnew, by omega, hsw, ?_, (HT.out.below HBM.out).below hb2, _, HM.out.below hb2, pins_none⟩, below_from HB.out (below_from HBM.out hb2)⟩
  have := HT.out.map.lt
  omega
set_option maxRecDepth 100000 in
set_option maxHeartbeats 4000000 in
/-- States: how many states there are. -/
theorem states_any (g b now : Nat) (F : List FileS) (w : World) {base : Nat} (hm : mapN F ≤ 90000) (ht : TreeAt w base g b now F) :
    Calls Tryz.prog 12 #[.pointer (some ⟨g, 0, none⟩)] w fun e w' => e = .returned (.int .i64 ((mapN F : Nat) : Int)) ∧ Below w.heap.size w w' := by
  obtain ⟨c0, c1⟩ := tree_cells ht
  have HT := Lib.hid ht
  have hs := ht.small hm
  have hpart : ∀ (left : Lit → Bool), ((cameL (F.map FileS.path) (fun _ => true) left).map fun p => (rowsOf F p).length).sum ≤ mapN F := fun left => by
    have h1 : ∀ l : List FileS, (∀ f ∈ l, rowsOf F f.path = f.rows) → (((l.map FileS.path).filter fun p => !left (keyS p)).map fun p => (rowsOf F p).length).sum ≤ mapN l := fun l hl => by
      induction l with
      | nil => simp [mapN]
      | cons a r ih =>
        have ih := ih (fun f hf => hl f (by simp [hf]))
        rw [List.map_cons, List.filter_cons]
        split
        · simp only [List.map_cons, List.sum_cons, mapN] at ih ⊢
          rw [hl a (by simp)]
          omega
        · simp only [List.map_cons, List.sum_cons, mapN] at ih ⊢
          omega
    have h2 := h1 F (fun f hf => rowsOf_mem ht.once hf)
    unfold cameL
    rw [List.filter_eq_self.2 (fun _ _ => rfl)]
    exact h2
  have HPART := Lib.hid hpart
  clear ht hs hpart
  go_enter Tryz.func12, Tryz.ntmps12
  go_wp2_with (first | (at_range; go_loud (refine wpList_range_as _ rfl _ 104 rfl 9 107 strKeyed Tryz.underlying104 b (mapN F) (lookF F) rfl HT.out.map ?_); intro w0 left0 cnt0 hrg0 hl0 hg0 hs0) | go_in)
  have HRG0 := Lib.hid hrg0
  have HL0 := Lib.hid hl0
  have HB0 := Lib.hid (below_of_grown hg0)
  clear hg0 hrg0 hl0
  go_frame
  go_loopw [3] (fun nv wr => ∃ (left : Lit → Bool) (cnt : Nat), RangeAs wr Tryz.prog 9 b w.heap.size (mapN F) (lookF F) left cnt ∧ nv = .int .i64 ((((cameL (F.map FileS.path) (fun _ => true) left).map fun p => (rowsOf F p).length).sum : Nat) : Int) ∧ Below w.heap.size w wr) (fun _ wr => wr.rangeLeft b w.heap.size)
  case atStart => exact ⟨left0, cnt0, HRG0.out, by rw [came_start (fun p hp => (HL0.out (keyS p) trivial).trans (path_look hp))]; rfl, HB0.out⟩
  case round =>
    obtain ⟨left, cnt, hrg, rfl, hbr⟩ := hrel
    have HRG := Lib.hid hrg
    have HBR := Lib.hid hbr
    have hszr := hbr.size
    clear hrg hbr
    go_wp2_with (first | (at_next; refine wpList_next_as _ rfl _ rfl 9 Tryz.underlying9 strKeyed b w.heap.size (mapN F) (lookF F) _ _ rfl HRG.out ?_ ?_) | go_in)
    · intro hnone
      have he : ((cameL (F.map FileS.path) (fun _ => true) left).map fun p => (rowsOf F p).length).sum = mapN F := by
        rw [came_end hnone, List.filter_eq_self.2 (fun _ _ => rfl), List.map_map]
        unfold mapN
        congr 1
        exact List.map_congr_left (fun f hf => by show (rowsOf F f.path).length = _; rw [rowsOf_mem HT.out.once hf])
      rw [he]
      clear he hnone
      go_wp2_with fail
      go_ret
      exact ⟨rfl, HBR.out⟩
    · intro x cv w1 cnt1 hxm hlx hmx hrg1 hlt hg1 hs1 hen
      obtain ⟨f, hfo, hfv⟩ : ∃ f, fileOf F x = some f ∧ f.val = cv := by
        rw [lookF_key] at hmx
        cases hc : fileOf F x with
        | none => rw [hc] at hmx; cases hmx
        | some f => rw [hc] at hmx; exact ⟨f, rfl, Option.some.inj hmx⟩
      obtain ⟨hfm, hfp⟩ := file_mem hfo
      obtain ⟨bb, oo, cc, hval, _⟩ := rows_form (HT.out.files f hfm)
      have hro : rowsOf F x = f.rows := by rw [← hfp]; exact rowsOf_mem HT.out.once hfm
      have hnx : ((cameL (F.map FileS.path) (fun _ => true) (fun z => left z && !z.sameKey (keyS x))).map fun p => (rowsOf F p).length).sum = ((cameL (F.map FileS.path) (fun _ => true) left).map fun p => (rowsOf F p).length).sum + f.rows.length := by
        have := sum_perm ((came_good HT.out.once (List.mem_map.2 ⟨f, hfm, hfp⟩) hlx (good := fun _ => true) rfl).map fun p => (rowsOf F p).length)
        rw [this]
        simp [hro]
      have hle := HPART.out (fun z => left z && !z.sameKey (keyS x))
      rw [hnx] at hle
      obtain ⟨n0, hn0⟩ : ∃ n0, n0 = ((cameL (F.map FileS.path) (fun _ => true) left).map fun p => (rowsOf F p).length).sum := ⟨_, rfl⟩
      rw [← hn0] at hle hnx ⊢
      have HNX := Lib.hid hnx
      have HB1 := Lib.hid (HBR.out.grown hg1 hszr (fun j hj => by cases hj; exact Nat.le_refl _))
      have HRG1 := Lib.hid hrg1
      have HLT : Hid (cnt1 < wr.rangeLeft b w.heap.size) := Lib.hid (by rw [HRG.out.left_eq]; exact hlt)
      have HME : Hid (w1.rangeLeft b w.heap.size < wr.rangeLeft b w.heap.size) := Lib.hid (by rw [hrg1.left_eq]; exact HLT.out)
      rw [← hfv, hval] at hen ⊢
      clear hlx hmx hrg1 hlt hg1 hfo hfv hval hnx hn0 hro hfm hfp c0 c1
      go_wp2_with fail
      go_roundw
      case rel => exact ⟨_, cnt1, HRG1.out, by rw [HNX.out]; go_num, HB1.out⟩
      case measure => exact HME.out
end Go.Proofs.YtlidenehfmlebaaGreatDoor
