/-
  Locks in memory; lock.New, find, free.
-/
import Derived.Test.YtaaeobdihfbjfaaDoorLockMeet
import Derived.Lib.QuietBelow
set_option linter.unusedVariables false
set_option linter.unusedSimpArgs false
namespace Go.Proofs.YtaaeobdihfbjfaaDoor
open Go.RowKit
open Go.Proofs.YtaaeobdihfbjfaaDoorW.PrintWords (Kd ReadsRow)
/-- All but blocks of certain types stays. -/
structure FrameT (ts : List Nat) (w w' : World) : Prop where
  os : w'.os = w.os
  tape : w'.tape = w.tape
  output : w'.output = w.output
  size : w.heap.size ≤ w'.heap.size
  block : ∀ k : Nat, k < w.heap.size → (∀ (cells : Array Value) (t : TypeId), w.heap[k]? = some (Obj.cells cells t (0, 0)) → t ∉ ts) → w'.heap[k]? = w.heap[k]?
theorem FrameT.refl (ts : List Nat) (w : World) : FrameT ts w w := ⟨rfl, rfl, rfl, Nat.le_refl _, fun _ _ _ => rfl⟩
theorem lt_of_block {w : World} {k : Nat} {o : Obj} (h : w.heap[k]? = some o) : k < w.heap.size := (Array.getElem?_eq_some_iff.1 h).1
theorem FrameT.of_below {ts : List Nat} {w w' : World} (h : Below w.heap.size w w') : FrameT ts w w' :=
  ⟨h.os, h.tape, h.output, h.size, fun k hk _ => h.block k hk⟩
theorem FrameT.trans {ts : List Nat} {a b c : World} (h1 : FrameT ts a b) (h2 : FrameT ts b c) : FrameT ts a c := by
  refine ⟨h2.os.trans h1.os, h2.tape.trans h1.tape, h2.output.trans h1.output, Nat.le_trans h1.size h2.size, fun k hk ht => ?_⟩
  have e := h1.block k hk ht
  rw [h2.block k (Nat.lt_of_lt_of_le hk h1.size) (fun cells t hc => ht cells t (e ▸ hc)), e]
theorem FrameT.own {ts : List Nat} {w w' : World} (h : FrameT ts w w') {base : Nat} {e : TypeId} {size n : Nat} {v : Value} {xs : List Value} (ho : w.ownsRow base e size v n xs) (he : e ∉ ts) : w'.ownsRow base e size v n xs := by
  obtain ⟨h1, h2⟩ := ho
  refine ⟨h1, ?_⟩
  rcases h2 with h2 | ⟨g, cap, cur, rfl, hb, hg, r⟩
  · exact .inl h2
  · exact .inr ⟨g, cap, cur, rfl, hb, (h.block g (lt_of_block hg) (fun cells t hc => by rw [hg] at hc; injection hc with hc; injection hc with _ e1; rw [← e1]; exact he)).trans hg, r⟩
/-- Somebody's ask, as it lies there. -/
structure LRow where
  who : Int
  val : Value
  paths : List ByteArray
  has : Bool
def LRow.cells (a : LRow) : List Value := [.int .i64 a.who, a.val, .bool a.has]
def flat (q : List LRow) : List Value := q.flatMap LRow.cells
theorem flat_length (q : List LRow) : (flat q).length = q.length * 3 := by
  induction q with
  | nil => rfl
  | cons a r ih => simp only [flat, List.flatMap_cons, List.length_append] at *; rw [ih]; simp [LRow.cells]; omega
theorem flat_append (q r : List LRow) : flat (q ++ r) = flat q ++ flat r := by simp [flat]
theorem flat_get : ∀ (q : List LRow) (k : Nat) (hk : k < q.length) (j : Nat), j < 3 → (flat q)[k * 3 + j]? = (q[k].cells)[j]?
  | a :: r, 0, _, j, hj => by
    simp only [flat, List.flatMap_cons, List.getElem_cons_zero, Nat.zero_mul, Nat.zero_add]
    rw [List.getElem?_append_left (by simp [LRow.cells]; exact hj)]
  | a :: r, k + 1, hk, j, hj => by
    simp only [flat, List.flatMap_cons, List.getElem_cons_succ]
    rw [List.getElem?_append_right (by simp [LRow.cells]; omega)]
    have := flat_get r k (by simpa using hk) j hj
    rw [← this]
    congr 1
    simp [LRow.cells]; omega
/-- Locks at a block, their rows of the call's own. -/
def LocksAt (w : World) (base g : Nat) (q : List LRow) : Prop :=
  ∃ v, w.heap[g]? = some (.cells #[v] 111 (0, 0)) ∧ base ≤ g ∧ w.ownsRow base 116 3 v q.length (flat q) ∧
    ∀ a ∈ q, w.ownsRow base 9 1 a.val a.paths.length (strs a.paths) ∧ (∀ s ∈ a.paths, s.size ≤ 64) ∧ a.paths.length ≤ 16
theorem LocksAt.below {w w' : World} {base g : Nat} {q : List LRow} (h : LocksAt w base g q) (hb : Below w.heap.size w w') : LocksAt w' base g q := by
  obtain ⟨v, h1, h2, h3, h4⟩ := h
  exact ⟨v, (hb.block g (lt_of_block h1)).trans h1, h2, own_stay h3 hb, fun a ha => ⟨own_stay (h4 a ha).1 hb, (h4 a ha).2⟩⟩
set_option maxRecDepth 100000 in
theorem new_any (w : World) (base : Nat) (hbase : base ≤ w.heap.size) : Calls Tryd.prog 17 #[] w fun e w' => e = .returned (.pointer (some ⟨w.heap.size, 0, none⟩)) ∧ Below w.heap.size w w' ∧ LocksAt w' base w.heap.size [] := by
  go_enter Tryd.func17, Tryd.ntmps17
  go_wp2
  go_ret
  exact ⟨rfl, below_one w _, .slice none 0 0, by simpa using heap_alloc_new w _, hbase, ⟨rfl, .inl ⟨rfl, rfl⟩⟩, fun a ha => by cases ha⟩
theorem ret_int {a b : Int} (h : a = b) : Ending.returned (.int .i64 a) = .returned (.int .i64 b) := by rw [h]
/-- The first place of which p says yes, below n. -/
def firstB (p : Nat → Bool) (n : Nat) : Int := match (List.range n).find? p with
  | some k => k
  | none => -1
theorem firstB_hit {p : Nat → Bool} {n k : Nat} (hk : k < n) (h : p k = true) (h0 : ∀ j, j < k → p j = false) : firstB p n = k := by
  have : (List.range n).find? p = some k := by
    rw [List.find?_range_eq_some]
    exact ⟨h, List.mem_range.2 hk, fun j hj => by simp [h0 j hj]⟩
  rw [firstB, this]
theorem firstB_miss {p : Nat → Bool} {n : Nat} (h0 : ∀ j, j < n → p j = false) : firstB p n = -1 := by
  have : (List.range n).find? p = none := by
    rw [List.find?_eq_none]
    intro j hj
    simp [h0 j (List.mem_range.1 hj)]
  rw [firstB, this]
set_option maxRecDepth 100000 in
set_option maxHeartbeats 4000000 in
/-- slices.IndexFunc at a row of asks. -/
theorem indexFunc_any (g : Nat) (lb : Array Value) (eg : ∀ args w, (callFunc g args).run Tryd.prog w = .ok (.enter g args) w) (b c n : Nat) (q : List LRow) (hnq : n ≤ q.length) (p : Nat → Bool) (w : World) (hq : q.length ≤ 1000)
    (hc : ∀ k (hk : k < n), w.cell? ⟨b, k * 3, none⟩ = some (.int .i64 (q[k]'(by omega)).who) ∧ w.cell? ⟨b, k * 3 + 1, none⟩ = some (q[k]'(by omega)).val ∧ w.cell? ⟨b, k * 3 + 2, none⟩ = some (.bool (q[k]'(by omega)).has))
    (hp : ∀ k (hk : k < n) (W : World), Below w.heap.size w W → Calls Tryd.prog g (#[.agg #[.int .i64 (q[k]'(by omega)).who, (q[k]'(by omega)).val, .bool (q[k]'(by omega)).has]] ++ lb) W fun e w' => e = .returned (.bool (p k)) ∧ Below W.heap.size W w') :
    Calls Tryd.prog 75 #[.slice (some ⟨b, 0, none⟩) n c, .func (.func g) #[] lb] w fun e w' => e = .returned (.int .i64 (firstB p n)) ∧ Below w.heap.size w w' := by
  have HC := Lib.hid hc
  have HP := Lib.hid hp
  clear hc hp
  go_enter Tryd.func75, Tryd.ntmps75
  go_wp2_with fail
  go_loopw [8] (fun i wr => ∃ k : Nat, k ≤ n ∧ i = .int .i64 k ∧ Below w.heap.size w wr ∧ ∀ j, j < k → p j = false) (fun i _ => n - (intOf i).toNat)
  case atStart => exact ⟨0, by omega, rfl, Below.refl _ _, fun j hj => by omega⟩
  case round =>
    obtain ⟨k, hk, rfl, hb, hno⟩ := hrel
    have HNO := Lib.hid hno
    clear hno
    by_cases hlt : k < n
    · obtain ⟨h1, h2, h3⟩ := HC.out k hlt
      replace h1 := cell_below hb h1
      replace h2 := cell_below hb h2
      replace h3 := cell_below hb h3
      have hcall := HP.out k hlt wr hb
      cases hpk : p k with
      | true =>
        rw [hpk] at hcall
        have HCA := Lib.hid hcall
        have HR := Lib.hid (firstB_hit hlt hpk HNO.out)
        clear hcall hpk
        go_wp2_with fail
        refine HCA.out.mono ?_
        rintro e w2 ⟨rfl, hb2⟩
        go_wp2_with fail
        go_ret
        exact ⟨ret_int HR.out.symm, below_from hb hb2⟩
      | false =>
        rw [hpk] at hcall
        have HCA := Lib.hid hcall
        have HPK := Lib.hid hpk
        clear hcall hpk
        go_wp2_with fail
        refine HCA.out.mono ?_
        rintro e w2 ⟨rfl, hb2⟩
        go_wp2_with fail
        go_roundw
        case rel => exact ⟨k + 1, by omega, by go_num, below_from hb hb2, fun j hj => by
          by_cases e : j = k
          · subst e; exact HPK.out
          · exact HNO.out j (by omega)⟩
        case measure => simp [intOf]; omega
    · have HR := Lib.hid (firstB_miss (n := n) (fun j hj => HNO.out j (by omega)))
      obtain rfl : k = n := by omega
      go_wp2
      go_ret
      exact ⟨ret_int HR.out.symm, hb⟩
set_option maxRecDepth 100000 in
set_option maxHeartbeats 4000000 in
theorem indexFunc_empty (f : Value) (A : Option Addr) (c : Nat) (w : World) : Calls Tryd.prog 75 #[.slice A 0 c, f] w fun e w' => e = .returned (.int .i64 (-1)) ∧ w' = w := by
  go_enter Tryd.func75, Tryd.ntmps75
  go_wp2_with fail
  refine wp_loop_rounds 1 ?_
  rw [rounds_succ]
  go_wp2
  go_ret
  exact ⟨rfl, rfl⟩
set_option maxRecDepth 100000 in
set_option maxHeartbeats 4000000 in
/-- slices.ContainsFunc at a row of asks. -/
theorem containsFunc_any (f : Value) (sl : Value) (i : Int) (w : World)
    (h : Calls Tryd.prog 75 #[sl, f] w fun e w' => e = .returned (.int .i64 i) ∧ Below w.heap.size w w') :
    Calls Tryd.prog 79 #[sl, f] w fun e w' => e = .returned (.bool (decide (0 ≤ i))) ∧ Below w.heap.size w w' := by
  have H := Lib.hid h
  clear h
  go_enter Tryd.func79, Tryd.ntmps79
  go_wp2_with fail
  refine H.out.mono ?_
  rintro e w2 ⟨rfl, hb2⟩
  go_wp2
  go_ret
  exact ⟨rfl, hb2⟩
/-- find's closure. -/
theorem find1_any (who n : Int) (v : Value) (h : Bool) (b : Nat) (w : World) (hc : w.cell? ⟨b, 0, none⟩ = some (.int .i64 who)) :
    Calls Tryd.prog 76 #[.agg #[.int .i64 n, v, .bool h], .pointer (some ⟨b, 0, none⟩)] w fun e w' => e = .returned (.bool (n == who)) ∧ Below w.heap.size w w' := by
  have hlt := lt_of_cell hc
  simp only at hlt
  have hne : ¬ w.heap.size = b := by omega
  have hc2 := cell_below (below_one w (.cells #[.int .i64 n, v, .bool h] 116)) hc
  go_enter Tryd.func76, Tryd.ntmps76
  go_wp2_with fail
  go_ret
  exact ⟨rfl, below_one w _⟩
/-- The place of somebody's ask. -/
def findQ (q : List LRow) (who : Int) : Int := firstB (fun k => (q.getD k ⟨0, .nilIface, [], false⟩).who == who) q.length
/-- What a row of asks reads. -/
theorem LocksAt.form {w : World} {base g : Nat} {q : List LRow} (h : LocksAt w base g q) : ∃ A c, w.cell? ⟨g, 0, none⟩ = some (.slice A q.length c) ∧ q.length ≤ c ∧
    (0 < q.length → ∃ b, A = some ⟨b, 0, none⟩ ∧ ∀ k (hk : k < q.length), w.cell? ⟨b, k * 3, none⟩ = some (.int .i64 q[k].who) ∧ w.cell? ⟨b, k * 3 + 1, none⟩ = some q[k].val ∧ w.cell? ⟨b, k * 3 + 2, none⟩ = some (.bool q[k].has)) := by
  obtain ⟨v, h1, _, h3, _⟩ := h
  have hcell : w.cell? ⟨g, 0, none⟩ = some v := by simp [World.cell?, h1]
  rcases h3.2 with ⟨rfl, h0⟩ | ⟨b, cap, cur, rfl, _, _, hcap, _⟩
  · exact ⟨none, 0, by rw [hcell, h0], by omega, fun h => by omega⟩
  · refine ⟨_, cap, hcell, hcap, fun hn => ⟨b, rfl, fun k hk => ?_⟩⟩
    have e : ∀ j, j < 3 → w.cell? ⟨b, k * 3 + j, none⟩ = (q[k].cells)[j]? := fun j hj => by
      rw [h3.cellAt (k * 3 + j) (by omega), flat_get q k hk j hj]
    exact ⟨e 0 (by omega), e 1 (by omega), e 2 (by omega)⟩
set_option maxRecDepth 100000 in
set_option maxHeartbeats 4000000 in
theorem find_any (g : Nat) (who : Int) (q : List LRow) (w : World) {base : Nat} (hq : q.length ≤ 1000) (hl : LocksAt w base g q) :
    Calls Tryd.prog 51 #[.pointer (some ⟨g, 0, none⟩), .int .i64 who] w fun e w' => e = .returned (.int .i64 (findQ q who)) ∧ Below w.heap.size w w' := by
  obtain ⟨A, c, hc, hcap, hrows⟩ := hl.form
  have hgl := lt_of_cell hc
  go_enter Tryd.func51, Tryd.ntmps51
  go_wp2_with fail
  by_cases hn : 0 < q.length
  · obtain ⟨b, rfl, hcell⟩ := hrows hn
    refine (indexFunc_any _ #[.pointer (some ⟨w.heap.size, 0, none⟩)] (fun args w => by rfl) b c q.length q (Nat.le_refl _) (fun k => (q.getD k ⟨0, .nilIface, [], false⟩).who == who) _ hq (fun k hk => ⟨cell_below (below_one w _) (hcell k hk).1, cell_below (below_one w _) (hcell k hk).2.1, cell_below (below_one w _) (hcell k hk).2.2⟩) (fun k hk W hb => ?_)).mono ?_
    · have e : q.getD k ⟨0, .nilIface, [], false⟩ = q[k] := by simp [List.getD, hk]
      simp only [e]
      exact find1_any who q[k].who q[k].val q[k].has w.heap.size W (cell_below hb (by simp))
    · rintro e w2 ⟨rfl, hb2⟩
      go_wp2_with fail
      go_ret
      exact ⟨rfl, below_from (below_one w _) hb2⟩
  · have hn0 : q.length = 0 := by omega
    rw [hn0]
    refine (indexFunc_empty _ A c _).mono ?_
    rintro e w2 ⟨rfl, rfl⟩
    go_wp2_with fail
    go_ret
    exact ⟨ret_int (by unfold findQ; rw [hn0]; rfl), below_one w _⟩
/-- free's closure. -/
theorem free1_any (a0 b0 : Int) (fa fb : Bool) (A B : Option Addr) (c d : Nat) (xs ys : List ByteArray) (lb ib g b n cap i : Nat) (w : World)
    (hx : TextRow w A xs) (hy : TextRow w B ys) (hxs : ∀ s ∈ xs, s.size ≤ 140737488351232) (hys : ∀ s ∈ ys, s.size ≤ 140737488351232) (hxl : xs.length ≤ 1000) (hyl : ys.length ≤ 1000)
    (h1 : w.cell? ⟨lb, 0, none⟩ = some (.pointer (some ⟨g, 0, none⟩))) (h2 : w.cell? ⟨ib, 0, none⟩ = some (.int .i64 i)) (h3 : w.cell? ⟨g, 0, none⟩ = some (.slice (some ⟨b, 0, none⟩) n cap)) (hi : i < n) (hn : n ≤ 1000)
    (h4 : w.cell? ⟨b, i * 3, none⟩ = some (.int .i64 b0)) (h5 : w.cell? ⟨b, i * 3 + 1, none⟩ = some (.slice B ys.length d)) (h6 : w.cell? ⟨b, i * 3 + 2, none⟩ = some (.bool fb)) :
    Calls Tryd.prog 80 #[.agg #[.int .i64 a0, .slice A xs.length c, .bool fa], .pointer (some ⟨lb, 0, none⟩), .pointer (some ⟨ib, 0, none⟩)] w fun e w' => e = .returned (.bool (meetB xs ys)) ∧ Below w.heap.size w w' := by
  have hb1 := below_one w (.cells #[.int .i64 a0, .slice A xs.length c, .bool fa] 116)
  have l1 := lt_of_cell h1
  have l2 := lt_of_cell h2
  have l3 := lt_of_cell h3
  have l4 := lt_of_cell h4
  simp only at l1 l2 l3 l4
  replace h1 := cell_below hb1 h1
  replace h2 := cell_below hb1 h2
  replace h3 := cell_below hb1 h3
  replace h4 := cell_below hb1 h4
  replace h5 := cell_below hb1 h5
  replace h6 := cell_below hb1 h6
  have HM := Lib.hid (fun W (hb : Below w.heap.size w W) => meet_any a0 b0 fa fb A B c d xs ys W (hx.below hb) (hy.below hb) hxs hys hxl hyl)
  clear hx hy hxs hys hb1
  go_enter Tryd.func80, Tryd.ntmps80
  go_wp2_with fail
  have h7 : (w.alloc (.cells #[.int .i64 a0, .slice A xs.length c, .bool fa] 116)).cell? ⟨w.heap.size, 0, none⟩ = some (.int .i64 a0) := by simp
  have h8 : (w.alloc (.cells #[.int .i64 a0, .slice A xs.length c, .bool fa] 116)).cell? ⟨w.heap.size, 1, none⟩ = some (.slice A xs.length c) := by simp
  have h9 : (w.alloc (.cells #[.int .i64 a0, .slice A xs.length c, .bool fa] 116)).cell? ⟨w.heap.size, 2, none⟩ = some (.bool fa) := by simp
  have hbw := below_one w (.cells #[.int .i64 a0, .slice A xs.length c, .bool fa] 116)
  generalize hW : (w.alloc (.cells #[.int .i64 a0, .slice A xs.length c, .bool fa] 116)) = W at *
  have k1 := cell_regrown h1
  have k2 := cell_regrown h2
  have k3 := cell_regrown h3
  have k4 := cell_regrown h4
  have k5 := cell_regrown h5
  have k6 := cell_regrown h6
  have k7 := cell_regrown h7
  have k8 := cell_regrown h8
  have k9 := cell_regrown h9
  have cM := fun d os => Calls.regrown_of (HM.out _ (below_from hbw (below_regrown W d os)))
  clear h1 h2 h3 h4 h5 h6 h7 h8 h9
  refine wp_region_quiet_below (by kernel_rfl) (by kernel_rfl) ?_
  repeat (quiet_step (exact cM _ _))
  refine wpQuiet_nil ?_
  intro _ hw'
  obtain ⟨⟨dq, osq⟩, hw''⟩ := hw'
  subst hw''
  go_wp2
  go_ret
  exact ⟨rfl, below_from hbw (below_regrown W dq osq)⟩
end Go.Proofs.YtaaeobdihfbjfaaDoor
