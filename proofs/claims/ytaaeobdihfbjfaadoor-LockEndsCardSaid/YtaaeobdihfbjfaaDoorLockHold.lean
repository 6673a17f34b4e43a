/-
  (*Locks).Holder.
-/
import Derived.Test.YtaaeobdihfbjfaaDoorLockRel
import Derived.Test.YtaaeobdihfbjfaaDoorShelf
set_option linter.unusedVariables false
set_option linter.unusedSimpArgs false
namespace Go.Proofs.YtaaeobdihfbjfaaDoor
open Go.RowKit
theorem ret_ib {r : Int × Bool} {a : Int} {b : Bool} (h : r = (a, b)) : Ending.returned (.tuple #[.int .i64 a, .bool b]) = .returned (.tuple #[.int .i64 r.1, .bool r.2]) := by rw [h]
/-- Has somebody this path? -/
def LRow.holds (p : ByteArray) (a : LRow) : Bool := a.has && a.paths.any fun s => s.toList == p.toList
def holderQ (q : List LRow) (p : ByteArray) : Int × Bool := match q.find? (LRow.holds p) with
  | some a => (a.who, true)
  | none => (0, false)
theorem contains_any (A : Option Addr) (c : Nat) (l : List ByteArray) (p : ByteArray) (w : World) (hl : l.length ≤ 1000) (h : TextRow w A l) :
    Calls Tryd.prog 74 #[.slice A l.length c, .string p] w fun e w' => e = .returned (.bool (l.any fun s => s.toList == p.toList)) ∧ w' = w := by
  cases l with
  | nil => exact Tryd.slices_Contains_string_empty A c p w
  | cons s r =>
    obtain ⟨ad, rfl, ht⟩ := h (by simp)
    obtain ⟨b, off, spot⟩ := ad
    have h0 := ht 0 (by simp)
    have hs : spot = none := by
      have := World.cell?_spot h0
      simpa [Addr.add] using this
    subst hs
    have hc : ∀ j, j < (s :: r).length → w.cell? ⟨b, off + j, none⟩ = some (.string ((s :: r).getD j ByteArray.empty)) := fun j hj => by
      have := ht j hj
      rw [Addr.add_lit] at this
      rw [this, List.getD_eq_getElem?_getD, List.getElem?_eq_getElem hj]
      rfl
    have key := Tryd.slices_Contains_string b off (s :: r).length c (s :: r) p w (Nat.le_refl _) (by omega) hc
    have e : Lib.containsS ((s :: r).take (s :: r).length) p = ((s :: r).any fun s => s.toList == p.toList) := by
      rw [List.take_length]
      cases hb : (s :: r).any fun s => s.toList == p.toList with
      | true =>
        obtain ⟨x, hx, hxe⟩ := List.any_eq_true.1 hb
        have : x = p := bytes_ext (by simpa using hxe)
        exact (Lib.containsS_iff _ _).2 (this ▸ hx)
      | false =>
        rw [List.any_eq_false] at hb
        cases hc2 : Lib.containsS (s :: r) p with
        | false => rfl
        | true => have := hb p ((Lib.containsS_iff _ _).1 hc2); simp at this
    rw [e] at key
    exact key
theorem find_at {q : List LRow} {p : LRow → Bool} {k : Nat} (hk : k < q.length) (h : p q[k] = true) (h0 : ∀ j (hj : j < q.length), j < k → p q[j] = false) : q.find? p = some q[k] := by
  rw [List.find?_eq_some_iff_getElem]
  exact ⟨h, k, hk, rfl, fun j hj => by simp [h0 j (by omega) hj]⟩
theorem find_not {q : List LRow} {p : LRow → Bool} (h0 : ∀ j (hj : j < q.length), p q[j] = false) : q.find? p = none := by
  rw [List.find?_eq_none]
  intro a ha
  obtain ⟨j, hj, rfl⟩ := List.getElem_of_mem ha
  simp [h0 j hj]
set_option maxRecDepth 100000 in
set_option maxHeartbeats 4000000 in
theorem holder_any (g : Nat) (p : ByteArray) (q : List LRow) (w : World) {base : Nat} (hq : q.length ≤ 1000) (hl : LocksAt w base g q) :
    Calls Tryd.prog 50 #[.pointer (some ⟨g, 0, none⟩), .string p] w fun e w' => e = .returned (.tuple #[.int .i64 (holderQ q p).1, .bool (holderQ q p).2]) ∧ Below w.heap.size w w' := by
  obtain ⟨A, c, hc, hcap, hrows⟩ := hl.form
  have HL := Lib.hid hl
  have HRO := Lib.hid hrows
  clear hl hrows
  go_enter Tryd.func50, Tryd.ntmps50
  go_wp2_with fail
  go_loopw [13] (fun i wr => ∃ k : Nat, k ≤ q.length ∧ i = .int .i64 k ∧ Below w.heap.size w wr ∧ ∀ j (hj : j < q.length), j < k → q[j].holds p = false) (fun i _ => q.length - (intOf i).toNat)
  case atStart => exact ⟨0, by omega, rfl, Below.refl _ _, fun j hj h => by omega⟩
  case round =>
    obtain ⟨k, hk, rfl, hb, hno⟩ := hrel
    have HNO := Lib.hid hno
    clear hno
    by_cases hlt : k < q.length
    · obtain ⟨b, rfl, hcell⟩ := HRO.out (by omega)
      obtain ⟨x1, x2, x3⟩ := hcell k hlt
      replace x1 := cell_below hb x1
      replace x2 := cell_below hb x2
      replace x3 := cell_below hb x3
      obtain ⟨A1, c1, e1, t1, _, l1⟩ := (HL.out.below hb).path hlt
      obtain ⟨a, ha⟩ : ∃ a, a = q[k] := ⟨_, rfl⟩
      rw [← ha] at x1 x2 x3 e1 t1 l1
      rw [e1] at x2
      have HA := Lib.hid ha
      have HC := Lib.hid (fun W (hW : Below wr.heap.size wr W) => contains_any A1 c1 a.paths p W l1 (t1.below hW))
      clear hcell e1 t1 ha
      cases hh : a.has with
      | false =>
        rw [hh] at x3
        have HH : Hid (a.holds p = false) := Lib.hid (by rw [LRow.holds, hh]; rfl)
        clear hh
        go_wp2_with fail
        go_roundw
        case rel => exact ⟨k + 1, by omega, by go_num, below_from hb (below_one _ _), fun j hj h => by
          by_cases e : j = k
          · subst e; rw [← HA.out]; exact HH.out
          · exact HNO.out j hj (by omega)⟩
        case measure => simp [intOf]; omega
      | true =>
        rw [hh] at x3
        cases hp : (a.paths.any fun s => s.toList == p.toList) with
        | false =>
          have HP := Lib.hid hp
          have HH : Hid (a.holds p = false) := Lib.hid (by rw [LRow.holds, hh, hp]; rfl)
          clear hh hp
          go_wp2_with fail
          refine (HC.out _ (below_one _ _)).mono ?_
          rw [HP.out]
          rintro e w2 ⟨rfl, rfl⟩
          go_wp2_with fail
          go_roundw
          case rel => exact ⟨k + 1, by omega, by go_num, below_from hb (below_one _ _), fun j hj h => by
            by_cases e : j = k
            · subst e; rw [← HA.out]; exact HH.out
            · exact HNO.out j hj (by omega)⟩
          case measure => simp [intOf]; omega
        | true =>
          have HP := Lib.hid hp
          have HR : Hid (holderQ q p = (a.who, true)) := Lib.hid (by
            have := find_at (p := LRow.holds p) hlt (by rw [← HA.out, LRow.holds, hh, hp]; rfl) HNO.out
            rw [holderQ, this, ← HA.out])
          clear hh hp
          go_wp2_with fail
          refine (HC.out _ (below_one _ _)).mono ?_
          rw [HP.out]
          rintro e w2 ⟨rfl, rfl⟩
          go_wp2_with fail
          go_ret2
          exact ⟨ret_ib HR.out, below_from hb (below_one _ _)⟩
    · have HR : Hid (holderQ q p = (0, false)) := Lib.hid (by rw [holderQ, find_not (fun j hj => HNO.out j hj (by omega))])
      obtain rfl : k = q.length := by omega
      go_wp2
      go_ret2
      exact ⟨ret_ib HR.out, hb⟩
end Go.Proofs.YtaaeobdihfbjfaaDoor
