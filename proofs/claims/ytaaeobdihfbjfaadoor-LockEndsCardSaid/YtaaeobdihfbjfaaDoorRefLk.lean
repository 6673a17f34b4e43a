/-
  The reference's asks in memory: Find, meet, Has.
-/
import Derived.Test.YtaaeobdihfbjfaaDoorLockSig
import Derived.Test.YtaaeobdihfbjfaaDoorLockHead
set_option linter.unusedVariables false
set_option linter.unusedSimpArgs false
namespace Go.Proofs.YtaaeobdihfbjfaaDoor
open Go.RowKit
/-- Somebody's ask, as the reference keeps it. -/
structure RRow where
  who : Int
  val : Value
  paths : List ByteArray
def RRow.cells (a : RRow) : List Value := [.int .i64 a.who, a.val]
def flat2 (q : List RRow) : List Value := q.flatMap RRow.cells
def RRow.sig (a : RRow) : Int × List ByteArray := (a.who, a.paths)
def zR : RRow := ⟨0, .nilIface, []⟩
theorem flat2_length (q : List RRow) : (flat2 q).length = q.length * 2 := by
  induction q with
  | nil => rfl
  | cons a r ih => simp only [flat2, List.flatMap_cons, List.length_append] at *; rw [ih]; simp [RRow.cells]; omega
theorem flat2_append (q r : List RRow) : flat2 (q ++ r) = flat2 q ++ flat2 r := by simp [flat2]
theorem flat2_get : ∀ (q : List RRow) (k : Nat) (hk : k < q.length) (j : Nat), j < 2 → (flat2 q)[k * 2 + j]? = (q[k].cells)[j]?
  | a :: r, 0, _, j, hj => by
    simp only [flat2, List.flatMap_cons, List.getElem_cons_zero, Nat.zero_mul, Nat.zero_add]
    rw [List.getElem?_append_left (by simp [RRow.cells]; exact hj)]
  | a :: r, k + 1, hk, j, hj => by
    simp only [flat2, List.flatMap_cons, List.getElem_cons_succ]
    rw [List.getElem?_append_right (by simp [RRow.cells]; omega)]
    have := flat2_get r k (by simpa using hk) j hj
    rw [← this]
    congr 1
    simp [RRow.cells]; omega
/-- The reference's asks, a row of the call's own. -/
def AsksAt (w : World) (base : Nat) (v : Value) (q : List RRow) : Prop :=
  w.ownsRow base 48 2 v q.length (flat2 q) ∧ ∀ a ∈ q, w.ownsRow base 9 1 a.val a.paths.length (strs a.paths) ∧ (∀ s ∈ a.paths, s.size ≤ 64) ∧ a.paths.length ≤ 16
theorem AsksAt.below {w w' : World} {base : Nat} {v : Value} {q : List RRow} (h : AsksAt w base v q) (hb : Below w.heap.size w w') : AsksAt w' base v q :=
  ⟨own_stay h.1 hb, fun a ha => ⟨own_stay (h.2 a ha).1 hb, (h.2 a ha).2⟩⟩
theorem AsksAt.frame {w w' : World} {base : Nat} {v : Value} {q : List RRow} (h : AsksAt w base v q) (hf : FrameT lockTs w w') : AsksAt w' base v q :=
  ⟨hf.own h.1 (by decide), fun a ha => ⟨hf.own (h.2 a ha).1 (by decide), (h.2 a ha).2⟩⟩
theorem AsksAt.form {w : World} {base : Nat} {v : Value} {q : List RRow} (h : AsksAt w base v q) : ∃ A c, v = .slice A q.length c ∧ q.length ≤ c ∧
    (0 < q.length → ∃ b, A = some ⟨b, 0, none⟩ ∧ ∀ k (hk : k < q.length), w.cell? ⟨b, k * 2, none⟩ = some (.int .i64 q[k].who) ∧ w.cell? ⟨b, k * 2 + 1, none⟩ = some q[k].val) := by
  rcases h.1.2 with ⟨rfl, h0⟩ | ⟨b, cap, cur, rfl, _, _, hcap, _⟩
  · exact ⟨none, 0, by rw [h0], by omega, fun h => by omega⟩
  · refine ⟨_, cap, rfl, hcap, fun hn => ⟨b, rfl, fun k hk => ?_⟩⟩
    have e : ∀ j, j < 2 → w.cell? ⟨b, k * 2 + j, none⟩ = (q[k].cells)[j]? := fun j hj => by
      rw [h.1.cellAt (k * 2 + j) (by omega), flat2_get q k hk j hj]
    exact ⟨e 0 (by omega), e 1 (by omega)⟩
theorem AsksAt.path {w : World} {base : Nat} {v : Value} {q : List RRow} (h : AsksAt w base v q) {k : Nat} (hk : k < q.length) : ∃ A c, q[k].val = .slice A q[k].paths.length c ∧ TextRow w A q[k].paths ∧ (∀ s ∈ q[k].paths, s.size ≤ 140737488351232) ∧ q[k].paths.length ≤ 1000 := by
  obtain ⟨h5, h6, h7⟩ := h.2 _ (List.getElem_mem hk)
  obtain ⟨A, c, e, _, ht⟩ := own_row h5
  exact ⟨A, c, e, ht, fun s hs => by have := h6 s hs; omega, by omega⟩
def findR (q : List RRow) (who : Int) : Int := firstB (fun k => (q.getD k zR).who == who) q.length
set_option maxRecDepth 100000 in
set_option maxHeartbeats 4000000 in
theorem rfind_any (v : Value) (who : Int) (q : List RRow) (w : World) {base : Nat} (hq : q.length ≤ 1000) (hr : AsksAt w base v q) :
    Calls Tryd.prog 56 #[v, .int .i64 who] w fun e w' => e = .returned (.int .i64 (findR q who)) ∧ Below w.heap.size w w' := by
  obtain ⟨A, c, rfl, hcap, hrows⟩ := hr.form
  have HRO := Lib.hid hrows
  clear hr hrows
  go_enter Tryd.func56, Tryd.ntmps56
  go_wp2_with fail
  go_loopw [5] (fun i wr => ∃ k : Nat, k ≤ q.length ∧ i = .int .i64 k ∧ Below w.heap.size w wr ∧ ∀ j, j < k → ((q.getD j zR).who == who) = false) (fun i _ => q.length - (intOf i).toNat)
  case atStart => exact ⟨0, by omega, rfl, Below.refl _ _, fun j hj => by omega⟩
  case round =>
    obtain ⟨k, hk, rfl, hb, hno⟩ := hrel
    have HNO := Lib.hid hno
    clear hno
    by_cases hlt : k < q.length
    · obtain ⟨b, rfl, hcell⟩ := HRO.out (by omega)
      obtain ⟨x1, x2⟩ := hcell k hlt
      replace x1 := cell_below hb x1
      have hgd : (q.getD k zR).who = q[k].who := by simp [List.getD, hlt]
      obtain ⟨n, hn⟩ : ∃ n, n = q[k].who := ⟨_, rfl⟩
      rw [← hn] at x1 hgd
      clear hcell x2 hn
      cases hh : (n == who) with
      | true =>
        have HR := Lib.hid (firstB_hit (p := fun k => (q.getD k zR).who == who) hlt (by show ((q.getD k zR).who == who) = true; rw [hgd]; exact hh) HNO.out)
        clear hgd
        go_wp2_with fail
        go_ret
        exact ⟨ret_int HR.out.symm, hb⟩
      | false =>
        go_wp2_with fail
        go_roundw
        case rel => exact ⟨k + 1, by omega, by go_num, hb, fun j hj => by
          by_cases e : j = k
          · subst e; rw [hgd]; exact hh
          · exact HNO.out j (by omega)⟩
        case measure => simp [intOf]; omega
    · have HR := Lib.hid (firstB_miss (p := fun k => (q.getD k zR).who == who) (n := q.length) (fun j hj => HNO.out j (by omega)))
      obtain rfl : k = q.length := by omega
      go_wp2
      go_ret
      exact ⟨ret_int HR.out.symm, hb⟩
set_option maxRecDepth 100000 in
set_option maxHeartbeats 4000000 in
theorem rmeet_any (a0 b0 : Int) (A B : Option Addr) (c d : Nat) (xs ys : List ByteArray) (w : World) (hx : TextRow w A xs) (hy : TextRow w B ys) (hxs : ∀ s ∈ xs, s.size ≤ 140737488351232) (hys : ∀ s ∈ ys, s.size ≤ 140737488351232) (hxl : xs.length ≤ 1000) (hyl : ys.length ≤ 1000) :
    Calls Tryd.prog 59 #[.agg #[.int .i64 a0, .slice A xs.length c], .agg #[.int .i64 b0, .slice B ys.length d]] w fun e w' => e = .returned (.bool (meetB xs ys)) ∧ Below w.heap.size w w' := by
  have b2w := below_two w (.cells #[.int .i64 a0, .slice A xs.length c] 48) (.cells #[.int .i64 b0, .slice B ys.length d] 48)
  have HX := Lib.hid (hx.below b2w)
  have HY := Lib.hid (hy.below b2w)
  have HXS := Lib.hid hxs
  have HYS := Lib.hid hys
  clear hx hy hxs hys
  go_enter Tryd.func59, Tryd.ntmps59
  go_wp2_with fail
  have g1 : ((w.alloc (.cells #[.int .i64 a0, .slice A xs.length c] 48)).alloc (.cells #[.int .i64 b0, .slice B ys.length d] 48)).cell? ⟨w.heap.size, 1, none⟩ = some (.slice A xs.length c) := by
    rw [World.cell?_alloc_lt _ _ _ (by simp)]; simp
  have g2 : ((w.alloc (.cells #[.int .i64 a0, .slice A xs.length c] 48)).alloc (.cells #[.int .i64 b0, .slice B ys.length d] 48)).cell? ⟨w.heap.size + 1, 1, none⟩ = some (.slice B ys.length d) := by
    rw [World.cell?_alloc_at _ _ _ _ (by simp)]; rfl
  generalize hW : ((w.alloc (.cells #[.int .i64 a0, .slice A xs.length c] 48)).alloc (.cells #[.int .i64 b0, .slice B ys.length d] 48)) = W at *
  have HG1 := Lib.hid g1
  have HG2 := Lib.hid g2
  clear g1 g2 hW
  go_loopw [5] (fun i wr => ∃ k : Nat, k ≤ xs.length ∧ i = .int .i64 k ∧ Below W.heap.size W wr ∧ ∀ j (hj : j < xs.length), j < k → ys.any (hitB xs[j]) = false) (fun i _ => xs.length - (intOf i).toNat)
  case atStart => exact ⟨0, by omega, rfl, Below.refl _ _, fun j hj h => by omega⟩
  case round =>
    obtain ⟨k, hk, rfl, hb, hno⟩ := hrel
    have HNO := Lib.hid hno
    have g1 := cell_below hb HG1.out
    clear hno
    by_cases hlt : k < xs.length
    · obtain ⟨x, hxe⟩ : ∃ x, x = xs[k] := ⟨_, rfl⟩
      have hxz := HXS.out x (hxe ▸ List.getElem_mem hlt)
      have HXE := Lib.hid hxe
      clear hxe
      go_wp2_with fail
      clear g1
      go_loopw [6] (fun i wq => ∃ j : Nat, j ≤ ys.length ∧ i = .int .i64 j ∧ Below W.heap.size W wq ∧ ∀ m (hm : m < ys.length), m < j → hitB x ys[m] = false) (fun i _ => ys.length - (intOf i).toNat)
      case atStart => exact ⟨0, by omega, rfl, hb, fun j hj h => by omega⟩
      case round =>
        obtain ⟨j, hj, rfl, hb2, hn2⟩ := hrel
        have HN2 := Lib.hid hn2
        have g1 := cell_below hb2 HG1.out
        have g2 := cell_below hb2 HG2.out
        clear hn2
        by_cases hjl : j < ys.length
        · obtain ⟨ad, rfl, hT⟩ := (HX.out.below hb2) (by omega)
          have hcx := hT k hlt
          rw [← HXE.out] at hcx
          obtain ⟨y, hye⟩ : ∃ y, y = ys[j] := ⟨_, rfl⟩
          obtain ⟨bd, rfl, hT2⟩ := (HY.out.below hb2) (by omega)
          have hcy := hT2 j hjl
          rw [← hye] at hcy
          have hyz := HYS.out y (hye ▸ List.getElem_mem hjl)
          have HYE := Lib.hid hye
          clear hT hT2 hye
          cases b1 : (x.toList == y.toList) with
          | true =>
            have HR := Lib.hid (meetB_row (ys := ys) hlt (by rw [← HXE.out]; exact any_at hjl (by rw [← HYE.out]; unfold hitB; rw [b1]; rfl)))
            go_wp2_with fail
            go_quiet (fail)
            go_wp2_with fail
            go_ret
            exact ⟨ret_true' HR.out, below_from b2w (below_drewN hb2 _)⟩
          | false =>
            cases b2 : clashB x y with
            | true =>
              have HCL := Lib.hid (fun W => b2 ▸ rclash_any x y W hxz hyz)
              have HR := Lib.hid (meetB_row (ys := ys) hlt (by rw [← HXE.out]; exact any_at hjl (by rw [← HYE.out]; unfold hitB; rw [b1, b2]; rfl)))
              go_wp2_with fail
              go_quiet ((refine (HCL.out _).mono ?_; rintro e w2 ⟨rfl, rfl⟩; exact ⟨rfl, _, rfl⟩))
              go_wp2_with fail
              go_ret
              exact ⟨ret_true' HR.out, below_from b2w (below_drewN hb2 _)⟩
            | false =>
              have HCL := Lib.hid (fun W => b2 ▸ rclash_any x y W hxz hyz)
              have HH : Hid (hitB x y = false) := Lib.hid (by unfold hitB; rw [b1, b2]; rfl)
              go_wp2_with fail
              go_quiet ((refine (HCL.out _).mono ?_; rintro e w2 ⟨rfl, rfl⟩; exact ⟨rfl, _, rfl⟩))
              go_wp2_with fail
              go_roundw
              case rel => exact ⟨j + 1, by omega, by go_num, below_drewN hb2 _, fun m hm h => by
                by_cases e : m = j
                · subst e; rw [← HYE.out]; exact HH.out
                · exact HN2.out m hm (by omega)⟩
              case measure => simp [intOf]; omega
        · have HA := Lib.hid (any_no (ys := ys) (p := x) (fun m hm => HN2.out m hm (by omega)))
          obtain rfl : j = ys.length := by omega
          go_wp2_with fail
          go_roundw
          case rel => exact ⟨k + 1, by omega, by go_num, hb2, fun m hm h => by
            by_cases e : m = k
            · subst e; rw [← HXE.out]; exact HA.out
            · exact HNO.out m hm (by omega)⟩
          case measure => simp [intOf]; omega
    · have HR := Lib.hid (meetB_none (ys := ys) (fun m hm => HNO.out m hm (by omega)))
      obtain rfl : k = xs.length := by omega
      go_wp2
      go_ret
      exact ⟨ret_false' HR.out, below_from b2w hb⟩
end Go.Proofs.YtaaeobdihfbjfaaDoor
