/-
  (*Locks).free, Has, Waits, Len.
-/
import Derived.Test.YtaaeobdihfbjfaaDoorLock
set_option linter.unusedVariables false
set_option linter.unusedSimpArgs false
namespace Go.Proofs.YtaaeobdihfbjfaaDoor
open Go.RowKit
theorem ret_bool {a b : Bool} (h : a = b) : Ending.returned (.bool a) = .returned (.bool b) := by rw [h]
def zRow : LRow := ⟨0, .nilIface, [], false⟩
/-- Does nothing that was asked ahead of it stand in an ask's way? -/
def freeQ (q : List LRow) (i : Nat) : Bool := !(q.take i).any fun a => meetB a.paths (q.getD i zRow).paths
theorem firstB_any {q : List LRow} {p : LRow → Bool} {n : Nat} (hn : n ≤ q.length) : decide (0 ≤ firstB (fun k => p (q.getD k zRow)) n) = (q.take n).any p := by
  cases h : (q.take n).any p with
  | true =>
    obtain ⟨a, ha, hp⟩ := List.any_eq_true.1 h
    obtain ⟨k, hk, rfl⟩ := List.getElem_of_mem ha
    have hkn : k < n := by simp at hk; omega
    have hkq : k < q.length := by omega
    have hpk : p (q.getD k zRow) = true := by
      rw [List.getElem_take] at hp
      simpa [List.getD, hkq] using hp
    obtain ⟨j, hj⟩ : ∃ j, (List.range n).find? (fun k => p (q.getD k zRow)) = some j := by
      cases hf : (List.range n).find? (fun k => p (q.getD k zRow)) with
      | some j => exact ⟨j, rfl⟩
      | none =>
        rw [List.find?_eq_none] at hf
        have := hf k (List.mem_range.2 hkn)
        rw [hpk] at this
        simp at this
    rw [firstB, hj]
    simp
  | false =>
    rw [List.any_eq_false] at h
    have : firstB (fun k => p (q.getD k zRow)) n = -1 := firstB_miss (fun j hj => by
      have h1 : j < (q.take n).length := by simp; omega
      have h2 := h _ (List.getElem_mem h1)
      rw [List.getElem_take] at h2
      have : j < q.length := by omega
      simpa [List.getD, this] using h2)
    rw [this]
    simp
theorem LocksAt.path {w : World} {base g : Nat} {q : List LRow} (h : LocksAt w base g q) {k : Nat} (hk : k < q.length) : ∃ A c, q[k].val = .slice A q[k].paths.length c ∧ TextRow w A q[k].paths ∧ (∀ s ∈ q[k].paths, s.size ≤ 140737488351232) ∧ q[k].paths.length ≤ 1000 := by
  obtain ⟨v, _, _, _, h4⟩ := h
  obtain ⟨h5, h6, h7⟩ := h4 _ (List.getElem_mem hk)
  obtain ⟨A, c, e, _, ht⟩ := own_row h5
  exact ⟨A, c, e, ht, fun s hs => by have := h6 s hs; omega, by omega⟩
set_option maxRecDepth 100000 in
set_option maxHeartbeats 4000000 in
theorem free_any (g i : Nat) (q : List LRow) (w : World) {base : Nat} (hq : q.length ≤ 1000) (hi : i < q.length) (hl : LocksAt w base g q) :
    Calls Tryd.prog 53 #[.pointer (some ⟨g, 0, none⟩), .int .i64 i] w fun e w' => e = .returned (.bool (freeQ q i)) ∧ Below w.heap.size w w' := by
  obtain ⟨A, c, hc, hcap, hrows⟩ := hl.form
  obtain ⟨b, rfl, hcell⟩ := hrows (by omega)
  have hgl := lt_of_cell hc
  simp only at hgl
  have b2 := below_two w (.cells #[.pointer (some ⟨g, 0, none⟩)] 25) (.cells #[.int .i64 i] 3)
  have hc2 := cell_below b2 hc
  have HL := Lib.hid hl
  have HC := Lib.hid hcell
  have HCC := Lib.hid hc
  clear hl hcell hrows hc
  have hic : (i : Int) ≤ (c : Int) := by omega
  go_enter Tryd.func53, Tryd.ntmps53
  go_wp2_with fail
  have g1 : ((w.alloc (.cells #[.pointer (some ⟨g, 0, none⟩)] 25)).alloc (.cells #[.int .i64 i] 3)).cell? ⟨w.heap.size, 0, none⟩ = some (.pointer (some ⟨g, 0, none⟩)) := by
    rw [World.cell?_alloc_lt _ _ _ (by simp)]; simp
  have g2 : ((w.alloc (.cells #[.pointer (some ⟨g, 0, none⟩)] 25)).alloc (.cells #[.int .i64 i] 3)).cell? ⟨w.heap.size + 1, 0, none⟩ = some (.int .i64 i) := by
    rw [World.cell?_alloc_at _ _ _ _ (by simp)]; rfl
  generalize hW : ((w.alloc (.cells #[.pointer (some ⟨g, 0, none⟩)] 25)).alloc (.cells #[.int .i64 i] 3)) = W at *
  have k1 := cell_regrown g1
  have k2 := cell_regrown g2
  have k3 := cell_regrown hc2
  have hcall : ∀ X, Below W.heap.size W X → Calls Tryd.prog 79 #[.slice (some ⟨b, 0, none⟩) i c, .func (.func 80) #[] #[.pointer (some ⟨w.heap.size, 0, none⟩), .pointer (some ⟨w.heap.size + 1, 0, none⟩)]] X fun e w' => e = .returned (.bool ((q.take i).any fun a => meetB a.paths (q.getD i zRow).paths)) ∧ Below X.heap.size X w' := by
    intro X hX
    rw [← firstB_any (p := fun a => meetB a.paths (q.getD i zRow).paths) (by omega : i ≤ q.length)]
    refine containsFunc_any _ _ _ _ ?_
    have hbX : Below w.heap.size w X := below_from b2 hX
    refine indexFunc_any 80 _ (fun args w => by rfl) b c i q (by omega) (fun k => meetB (q.getD k zRow).paths (q.getD i zRow).paths) X hq (fun k hk => ?_) (fun k hk Y hY => ?_)
    · obtain ⟨r1, r2, r3⟩ := HC.out k (by omega)
      exact ⟨cell_below hbX r1, cell_below hbX r2, cell_below hbX r3⟩
    · have hbY : Below w.heap.size w Y := below_from hbX hY
      have hWY : Below W.heap.size W Y := below_from hX hY
      have hkq : k < q.length := by omega
      obtain ⟨A1, c1, e1, t1, z1, l1⟩ := (HL.out.below hbY).path hkq
      obtain ⟨A2, c2, e2, t2, z2, l2⟩ := (HL.out.below hbY).path hi
      obtain ⟨r1, r2, r3⟩ := HC.out i hi
      have ek : q.getD k zRow = q[k] := by simp [List.getD, hkq]
      have ei : q.getD i zRow = q[i] := by simp [List.getD, hi]
      rw [e1]
      simp only [ek, ei]
      exact free1_any q[k].who q[i].who q[k].has q[i].has A1 A2 c1 c2 q[k].paths q[i].paths w.heap.size (w.heap.size + 1) g b q.length c i Y t1 t2 z1 z2 l1 l2 (cell_below hWY g1) (cell_below hWY g2) (cell_below hbY HCC.out) hi hq (cell_below hbY r1) (by rw [← e2]; exact cell_below hbY r2) (cell_below hbY r3)
  have cM := fun d os => Calls.regrown_of (hcall _ (below_regrown W d os))
  clear g1 g2 hc2 hcall
  refine wp_region_quiet_below (by kernel_rfl) (by kernel_rfl) ?_
  repeat (quiet_step (exact cM _ _))
  refine wpQuiet_nil ?_
  intro _ hw'
  obtain ⟨⟨dq, osq⟩, hw''⟩ := hw'
  subst hw''
  go_wp2
  go_ret
  exact ⟨ret_bool (by unfold freeQ; simp [List.getD, hi]), below_from b2 (below_regrown W dq osq)⟩
/-- Of somebody's ask: is it there, and do they have it? -/
def hasQ (q : List LRow) (who : Int) : Bool := decide (0 ≤ findQ q who) && (q.getD (findQ q who).toNat zRow).has
def waitsQ (q : List LRow) (who : Int) : Bool := decide (0 ≤ findQ q who) && !(q.getD (findQ q who).toNat zRow).has
theorem findQ_cases (q : List LRow) (who : Int) : findQ q who = -1 ∨ ∃ k : Nat, k < q.length ∧ findQ q who = k := by
  unfold findQ firstB
  cases h : (List.range q.length).find? (fun k => (q.getD k ⟨0, .nilIface, [], false⟩).who == who) with
  | none => exact .inl rfl
  | some k => exact .inr ⟨k, List.mem_range.1 (List.mem_of_find?_eq_some h), rfl⟩
set_option maxRecDepth 100000 in
set_option maxHeartbeats 4000000 in
theorem has_any (g : Nat) (who : Int) (q : List LRow) (w : World) {base : Nat} (hq : q.length ≤ 1000) (hl : LocksAt w base g q) :
    Calls Tryd.prog 20 #[.pointer (some ⟨g, 0, none⟩), .int .i64 who] w fun e w' => e = .returned (.bool (hasQ q who)) ∧ Below w.heap.size w w' := by
  have HL := Lib.hid hl
  have hf := find_any g who q w hq hl
  clear hl
  rcases findQ_cases q who with hm | ⟨k, hk, hm⟩
  · rw [hm] at hf
    have HF := Lib.hid hf
    have HR : Hid (hasQ q who = false) := Lib.hid (by unfold hasQ; rw [hm]; rfl)
    clear hf hm
    go_enter Tryd.func20, Tryd.ntmps20
    go_wp2_with fail
    refine HF.out.mono ?_
    rintro e w2 ⟨rfl, hb2⟩
    go_wp2_with fail
    go_ret
    exact ⟨ret_bool HR.out.symm, hb2⟩
  · rw [hm] at hf
    have HF := Lib.hid hf
    obtain ⟨r, hr⟩ : ∃ r, r = q[k].has := ⟨_, rfl⟩
    have HR : Hid (hasQ q who = r) := Lib.hid (by unfold hasQ; rw [hm, hr]; simp [List.getD, hk])
    have HRE := Lib.hid hr
    clear hf hm hr
    go_enter Tryd.func20, Tryd.ntmps20
    go_wp2_with fail
    refine HF.out.mono ?_
    rintro e w2 ⟨rfl, hb2⟩
    obtain ⟨A, c, hc, hcap, hrows⟩ := (HL.out.below hb2).form
    obtain ⟨b, rfl, hcell⟩ := hrows (by omega)
    obtain ⟨r1, r2, r3⟩ := hcell k hk
    rw [← HRE.out] at r3
    clear hrows hcell
    go_wp2_with fail
    go_ret
    exact ⟨ret_bool HR.out.symm, hb2⟩
set_option maxRecDepth 100000 in
set_option maxHeartbeats 4000000 in
theorem waits_any (g : Nat) (who : Int) (q : List LRow) (w : World) {base : Nat} (hq : q.length ≤ 1000) (hl : LocksAt w base g q) :
    Calls Tryd.prog 49 #[.pointer (some ⟨g, 0, none⟩), .int .i64 who] w fun e w' => e = .returned (.bool (waitsQ q who)) ∧ Below w.heap.size w w' := by
  have HL := Lib.hid hl
  have hf := find_any g who q w hq hl
  clear hl
  rcases findQ_cases q who with hm | ⟨k, hk, hm⟩
  · rw [hm] at hf
    have HF := Lib.hid hf
    have HR : Hid (waitsQ q who = false) := Lib.hid (by unfold waitsQ; rw [hm]; rfl)
    clear hf hm
    go_enter Tryd.func49, Tryd.ntmps49
    go_wp2_with fail
    refine HF.out.mono ?_
    rintro e w2 ⟨rfl, hb2⟩
    go_wp2_with fail
    go_ret
    exact ⟨ret_bool HR.out.symm, hb2⟩
  · rw [hm] at hf
    have HF := Lib.hid hf
    obtain ⟨r, hr⟩ : ∃ r, r = q[k].has := ⟨_, rfl⟩
    have HR : Hid (waitsQ q who = !r) := Lib.hid (by unfold waitsQ; rw [hm, hr]; simp [List.getD, hk])
    have HRE := Lib.hid hr
    clear hf hm hr
    go_enter Tryd.func49, Tryd.ntmps49
    go_wp2_with fail
    refine HF.out.mono ?_
    rintro e w2 ⟨rfl, hb2⟩
    obtain ⟨A, c, hc, hcap, hrows⟩ := (HL.out.below hb2).form
    obtain ⟨b, rfl, hcell⟩ := hrows (by omega)
    obtain ⟨r1, r2, r3⟩ := hcell k hk
    rw [← HRE.out] at r3
    clear hrows hcell
    go_wp2_with fail
    go_ret
    exact ⟨ret_bool HR.out.symm, hb2⟩
set_option maxRecDepth 100000 in
theorem len_any (g : Nat) (q : List LRow) (w : World) {base : Nat} (hl : LocksAt w base g q) :
    Calls Tryd.prog 22 #[.pointer (some ⟨g, 0, none⟩)] w fun e w' => e = .returned (.int .i64 q.length) ∧ w' = w := by
  obtain ⟨A, c, hc, hcap, _⟩ := hl.form
  clear hl
  go_enter Tryd.func22, Tryd.ntmps22
  go_wp2
  go_ret
  exact ⟨rfl, rfl⟩
end Go.Proofs.YtaaeobdihfbjfaaDoor
