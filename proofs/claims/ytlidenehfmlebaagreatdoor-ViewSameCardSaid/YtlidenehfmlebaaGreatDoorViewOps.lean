/-
  What a store of versions does: Pinned, Pin.
-/
import Derived.Test.YtlidenehfmlebaaGreatDoorViewKeys
import Derived.StillTailTactics
import Derived.Outline
set_option linter.unusedVariables false
set_option linter.unusedSimpArgs false
namespace Go.Proofs.YtlidenehfmlebaaGreatDoor
open Go.RowKit Go.Maps Go.WideMaps Go.WideAt
set_option maxRecDepth 100000 in
set_option maxHeartbeats 4000000 in
theorem pinned_any (s g b pm now : Nat) (F : List FileS) (L : List Int) (w : World) {base : Nat} (hL : L.length ≤ 100000) (hst : StoreAt w base s g b pm now F L) :
    Calls Tryz.prog 13 #[.pointer (some ⟨s, 0, none⟩)] w fun e w' => ∃ A c K, e = .returned (.slice A K.length c) ∧ SortedOf K L ∧ K.length ≤ L.length ∧ w'.ownsRow w.heap.size 3 1 (.slice A K.length c) K.length (i64V K) ∧ Below w.heap.size w w' := by
  obtain ⟨c0, c1, c2⟩ := store_cells hst
  obtain ⟨m, hm, hp⟩ := hst.pins
  have HS := Lib.hid (sorted_ints pm L.length m w hL hm)
  have HP := Lib.hid hp
  clear hst hm hp
  go_enter Tryz.func13, Tryz.ntmps13
  go_wp2_with fail
  refine (Tryz.maps_Keys_int (some pm) w).mono ?_
  rintro e w1 ⟨rfl, rfl⟩
  go_wp2_with fail
  refine HS.out.mono ?_
  rintro e w2 ⟨A, c, K, rfl, h1, h2, h3, h4, h5⟩
  go_wp2_with fail
  go_ret
  exact ⟨A, c, K, rfl, ⟨h1, fun v => (h2 v).trans (HP.out.some v)⟩, h3, h4, h5⟩
theorem ret_i64 {a b : Int} (h : a = b) : Ending.returned (.int .i64 a) = .returned (.int .i64 b) := by rw [h]
/-- Is a version there? -/
def thereV (now : Nat) (L : List Int) (v : Int) : Int := if v < 0 ∨ (now : Int) < v then 1 else if v < (now : Int) ∧ v ∉ L then 190 else 0
set_option maxRecDepth 100000 in
set_option maxHeartbeats 4000000 in
theorem there_any (s g b pm now : Nat) (F : List FileS) (L : List Int) (v : Int) (w : World) {base : Nat} (hv : (Lit.int .i64 v).wf = true) (hst : StoreAt w base s g b pm now F L) :
    Calls Tryz.prog 39 #[.pointer (some ⟨s, 0, none⟩), .int .i64 v] w fun e w' => e = .returned (.int .i64 (thereV now L v)) ∧ Below w.heap.size w w' := by
  obtain ⟨c0, c1, c2⟩ := store_cells hst
  obtain ⟨m, hm, hp⟩ := hst.pins
  have HT := Lib.hid hst.tree
  have HP := Lib.hid hp
  have hlook := hm.look intKeyed Tryz.underlying44 (zeroIntV w) (key := .int .i64 v) (keyOf_int_mk Tryz.underlying3 hv)
  have hlk : (m (Lit.int .i64 v)).getD (.int .i64 0) = .int .i64 ((L.count v : Nat) : Int) := hp.get v
  rw [hlk] at hlook
  clear hst hm hp hlk
  by_cases h1 : v < 0
  · have d1 : decide (v < 0) = true := decide_eq_true h1
    have HR : Hid (thereV now L v = 1) := Lib.hid (by rw [thereV, if_pos (.inl h1)])
    go_enter Tryz.func39, Tryz.ntmps39
    go_wp2_with fail
    go_ret
    exact ⟨ret_i64 HR.out.symm, Below.refl _ _⟩
  · have d1 : decide (v < 0) = false := decide_eq_false h1
    by_cases h2 : (now : Int) < v
    · have d2 : decide ((now : Int) < v) = true := decide_eq_true h2
      have HR : Hid (thereV now L v = 1) := Lib.hid (by rw [thereV, if_pos (.inr h2)])
      go_enter Tryz.func39, Tryz.ntmps39
      go_wp2_with fail
      refine (now_any g b now F w HT.out).mono ?_
      rintro e w1 ⟨rfl, rfl⟩
      go_wp2_with fail
      go_ret
      exact ⟨ret_i64 HR.out.symm, Below.refl _ _⟩
    · have d2 : decide ((now : Int) < v) = false := decide_eq_false h2
      by_cases h3 : v < (now : Int)
      · have d3 : decide (v < (now : Int)) = true := decide_eq_true h3
        by_cases h4 : v ∈ L
        · have hc : 0 < L.count v := List.count_pos_iff.2 h4
          have d4 : (((L.count v : Nat) : Int) == 0) = false := by rw [beq_eq_false_iff_ne]; omega
          have HR : Hid (thereV now L v = 0) := Lib.hid (by rw [thereV, if_neg (by omega), if_neg (fun h => h.2 h4)])
          clear hc
          go_enter Tryz.func39, Tryz.ntmps39
          go_wp2_with fail
          refine (now_any g b now F w HT.out).mono ?_
          rintro e w1 ⟨rfl, rfl⟩
          go_wp2_with fail
          refine (now_any g b now F w1 HT.out).mono ?_
          rintro e w2 ⟨rfl, rfl⟩
          go_wp2_with fail
          go_ret
          exact ⟨ret_i64 HR.out.symm, Below.refl _ _⟩
        · have hc : L.count v = 0 := List.count_eq_zero.2 h4
          rw [hc] at hlook
          have HR : Hid (thereV now L v = 190) := Lib.hid (by rw [thereV, if_neg (by omega), if_pos ⟨h3, h4⟩])
          clear hc
          go_enter Tryz.func39, Tryz.ntmps39
          go_wp2_with fail
          refine (now_any g b now F w HT.out).mono ?_
          rintro e w1 ⟨rfl, rfl⟩
          go_wp2_with fail
          refine (now_any g b now F w1 HT.out).mono ?_
          rintro e w2 ⟨rfl, rfl⟩
          go_wp2_with fail
          go_ret
          exact ⟨ret_i64 HR.out.symm, Below.refl _ _⟩
      · have d3 : decide (v < (now : Int)) = false := decide_eq_false h3
        have HR : Hid (thereV now L v = 0) := Lib.hid (by rw [thereV, if_neg (by omega), if_neg (fun h => h3 h.1)])
        go_enter Tryz.func39, Tryz.ntmps39
        go_wp2_with fail
        refine (now_any g b now F w HT.out).mono ?_
        rintro e w1 ⟨rfl, rfl⟩
        go_wp2_with fail
        refine (now_any g b now F w1 HT.out).mono ?_
        rintro e w2 ⟨rfl, rfl⟩
        go_wp2_with fail
        go_ret
        exact ⟨ret_i64 HR.out.symm, Below.refl _ _⟩
/-- What a file reads as in a store. -/
def readV (now : Nat) (F : List FileS) (L : List Int) (v : Int) (p : ByteArray) : List Int × Int := if thereV now L v ≠ 0 then ([], thereV now L v) else readT now F v p
set_option maxRecDepth 100000 in
set_option maxHeartbeats 4000000 in
theorem sread_any (s g b pm now : Nat) (F : List FileS) (L : List Int) (v : Int) (p : ByteArray) (d : List Int) (k : Int) (w : World) {base : Nat} (hv : (Lit.int .i64 v).wf = true) (hp : p.size ≤ maxLen) (hm : mapN F ≤ 90000) (hst : StoreAt w base s g b pm now F L) (hr : readV now F L v p = (d, k)) :
    Calls Tryz.prog 17 #[.pointer (some ⟨s, 0, none⟩), .int .i64 v, .string p] w fun e w' => ∃ A c, e = .returned (.tuple #[.slice A d.length c, .int .i64 k]) ∧ (∀ W, Below w'.heap.size w' W → (convert 55 9 (.slice A d.length c)).run Tryz.prog W = .ok (.string (strOfNums d)) W) ∧ w'.ownsRow w.heap.size 5 1 (.slice A d.length c) d.length (u8V d) ∧ Below w.heap.size w w' := by
  obtain ⟨c0, c1, c2⟩ := store_cells hst
  have HTH := Lib.hid (there_any s g b pm now F L v w hv hst)
  have HST := Lib.hid hst
  clear hst c1 c2
  by_cases h0 : thereV now L v = 0
  · have hr2 : readT now F v p = (d, k) := by rw [← hr, readV, if_neg (by simp [h0])]
    have HR := Lib.hid hr2
    have H0 := Lib.hid h0
    clear hr hr2 h0
    go_enter Tryz.func17, Tryz.ntmps17
    go_wp2_with fail
    refine HTH.out.mono ?_
    rw [H0.out]
    rintro e w1 ⟨rfl, hb1⟩
    have x0 := cell_below hb1 c0
    have HB1 := Lib.hid hb1
    have hsz := hb1.size
    clear hb1
    go_wp2_with fail
    refine (read_text g b now v p F d k w1 hp hm (HST.out.tree.below HB1.out) HR.out).mono ?_
    rintro e w2 ⟨A, c, rfl, hcv, ho, hb2⟩
    go_wp2_with fail
    go_ret2
    exact ⟨A, c, rfl, hcv, own_mono ho hsz, below_from HB1.out hb2⟩
  · have hr2 : (([] : List Int), thereV now L v) = (d, k) := by rw [← hr, readV, if_pos h0]
    injection hr2 with e1 e2
    subst e1
    have d1 : (thereV now L v == 0) = false := by rw [beq_eq_false_iff_ne]; exact h0
    obtain ⟨t, ht⟩ : ∃ t, t = thereV now L v := ⟨_, rfl⟩
    rw [← ht] at d1 e2 HTH
    subst e2
    clear hr h0 ht
    go_enter Tryz.func17, Tryz.ntmps17
    go_wp2_with fail
    refine HTH.out.mono ?_
    rintro e w1 ⟨rfl, hb1⟩
    have HB1 := Lib.hid hb1
    clear hb1
    go_wp2_with fail
    go_ret2
    exact ⟨none, 0, rfl, fun W _ => conv_row (A := none) (l := []) 0 (fun ad e => by cases e) (fun _ => rfl), ⟨rfl, .inl ⟨rfl, rfl⟩⟩, HB1.out⟩
/-- What a store's number of looks is set to. -/
theorem store_set {w : World} {base s g b pm now : Nat} {F : List FileS} {L : List Int} (h : StoreAt w base s g b pm now F L) (n : Int) (hbase : base ≤ w.heap.size) :
    (w.setCell ⟨s, 2, none⟩ (.int .i64 n)).heap[s]? = some (Obj.cells #[.pointer (some ⟨g, 0, none⟩), .map (some pm), .int .i64 n] 46 (0, 0)) ∧ Below base w (w.setCell ⟨s, 2, none⟩ (.int .i64 n)) ∧ SFrame w (w.setCell ⟨s, 2, none⟩ (.int .i64 n)) ∧ TreeAt (w.setCell ⟨s, 2, none⟩ (.int .i64 n)) base g b now F ∧ (∀ m k, MapAs w Tryz.prog 3 pm k m → MapAs (w.setCell ⟨s, 2, none⟩ (.int .i64 n)) Tryz.prog 3 pm k m) ∧ w.grownBy (w.setCell ⟨s, 2, none⟩ (.int .i64 n)) (some s) := by
  have hother : ∀ j, j ≠ s → (w.setCell ⟨s, 2, none⟩ (.int .i64 n)).heap[j]? = w.heap[j]? := fun j hj => Below.heap_setCell w ⟨s, 2, none⟩ _ j hj
  have hset : (w.setCell ⟨s, 2, none⟩ (.int .i64 n)).heap[s]? = some (Obj.cells #[.pointer (some ⟨g, 0, none⟩), .map (some pm), .int .i64 n] 46 (0, 0)) := by
    rw [heap_setCell_same w s 2 _ _ _ h.cell]; rfl
  have hgr : w.grownBy (w.setCell ⟨s, 2, none⟩ (.int .i64 n)) (some s) := ⟨rfl, rfl, rfl, by simp, fun k hk hne => hother k (fun e => hne (by rw [e]))⟩
  have hsb : ∀ cs t fr, w.heap[s]? = some (Obj.cells cs t fr) → t = 46 := fun cs t fr e => by
    rw [h.cell] at e
    injection e with e
    injection e with _ e
    exact e.symm
  have hown : ∀ {e : TypeId} {size n' : Nat} {v : Value} {xs : List Value}, w.ownsRow base e size v n' xs → e ≠ 46 → v.ownBlock ≠ some s := fun {e size n' v xs} ho he e2 => by
    rcases ho.2 with ⟨rfl, _⟩ | ⟨k, cap, cur, rfl, _, hh, _⟩
    · simp [Value.ownBlock] at e2
    · have : k = s := by simpa [Value.ownBlock] using e2
      rw [this] at hh
      exact he (hsb _ _ _ hh)
  have hgs : g ≠ s := fun e => absurd (hsb _ _ _ (e ▸ h.tree.cell)) (by decide)
  have hbs : b ≠ s := fun e => h.tree.noCells _ _ _ (e ▸ h.cell)
  have hps : pm ≠ s := fun e => by
    have hc := h.cell
    rw [← e] at hc
    exact h.pmNo _ _ _ hc
  refine ⟨hset, ⟨rfl, rfl, rfl, by simp, fun j hj => hother j (by have := h.hs; omega)⟩, ⟨by simp, fun k c t fr hk _ _ h3 => (hother k (fun e => h3 (hsb _ _ _ (e ▸ hk)))).trans hk⟩, ?_, fun m k hm => hm.grown hgr (fun e => hps (by injection e)), hgr⟩
  refine ⟨(hother g hgs).trans h.tree.cell, h.tree.hg, h.tree.hb, h.tree.map.grown hgr (fun e => hbs (by injection e)), h.tree.once, h.tree.apart, fun f hf => ?_⟩
  have hfa := h.tree.files f hf
  refine ⟨hfa.1.kept hgr (.inr (fun e => ?_)), hfa.2.1, fun r hr => ⟨(hfa.2.2.1 r hr).1.kept hgr (.inr (hown (hfa.2.2.1 r hr).1 (by decide))), (hfa.2.2.1 r hr).2⟩, hfa.2.2.2⟩
  obtain ⟨cur, hc⟩ := hfa.1.blk s e
  exact absurd (hsb _ _ _ hc) (by decide)
/-- A tree stays where another map is written. -/
theorem TreeAt.map_other {w w' : World} {base g b now pm : Nat} {F : List FileS} {es : Array MapEntry} {ck : Nat} (h : TreeAt w base g b now F) (hp : w.heap[pm]? = some (.map es ck)) (hne : pm ≠ b) (hg : w.grownBy w' (some pm)) : TreeAt w' base g b now F :=
  ⟨(hg.block g (lt_of_block h.cell) (fun e => by injection e with e; exact map_noCells hp _ _ _ (e ▸ h.cell))).trans h.cell, h.hg, h.hb, h.map.grown hg (fun e => hne (by injection e with e; exact e.symm)), h.once, h.apart, fun f hf => (h.files f hf).mapped hp hg⟩
end Go.Proofs.YtlidenehfmlebaaGreatDoor
