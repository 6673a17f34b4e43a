/-
  New; changes in memory: arguments and literals; worlds in which a row of bytes was written.
-/
import Derived.Test.YtkplkienbgoofaaDoorTreeCommitW
set_option linter.unusedVariables false
set_option linter.unusedSimpArgs false
namespace Go.Proofs.YtkplkienbgoofaaDoor
open Go.RowKit Go.Maps Go.WideMaps Go.WideAt
open Go.Proofs.YtkplkienbgoofaaDoorW.PrintWords (Kd ReadsRow)
theorem byteRow_of {w : World} {A : Option Addr} {l : List Int} (h : Kd.C (Kd.int .u8) w A l.length l) : ByteRow w A l ∧ (A = none → l.length = 0) := by
  refine ⟨fun ad e j u hj => ?_, fun e => ?_⟩
  · have hjl : j < l.length := by
      have := (List.getElem?_eq_some_iff.1 hj).1
      simpa [u8V] using this
    obtain ⟨ad', e', hc⟩ := h.2.2 (by omega)
    rw [e] at e'
    injection e' with e'
    subst e'
    obtain ⟨c, _, hK, hcell⟩ := hc j _ (List.getElem?_eq_getElem hjl)
    obtain rfl : c = [.int .u8 l[j]] := hK
    have := hcell 0 _ rfl
    have e2 : u = .int .u8 l[j] := by
      have := hj
      simp only [u8V, List.getElem?_map, List.getElem?_eq_getElem hjl, Option.map_some, Option.some.injEq] at this
      exact this.symm
    rw [e2]
    simpa [Kd.int, Kd.scalar] using this
  · rcases Nat.eq_zero_or_pos l.length with h0 | h0
    · exact h0
    · obtain ⟨ad, e', _⟩ := h.2.2 h0
      rw [e] at e'
      cases e'
theorem chgRow_of {w : World} {A : Option Addr} {l : List ChgD} (h : Kd.C kChg w A l.length l) : ChgRow w A l := by
  intro k hk
  obtain ⟨ad, e, hc⟩ := h.2.2 (by omega)
  obtain ⟨b, off, spot⟩ := ad
  have hall : ∀ k (hk : k < l.length), ∃ A' c', l[k].2.1.length ≤ c' ∧ Kd.C (Kd.int .u8) w A' l[k].2.1.length l[k].2.1 ∧ ∀ i u, ([.string l[k].1, .slice A' l[k].2.1.length c', .bool l[k].2.2] : List Value)[i]? = some u → w.cell? ((⟨b, off, spot⟩ : Addr).add (k * 3 + i)) = some u := by
    intro k hk
    obtain ⟨c, _, ⟨c0, c1, rfl, h0, ⟨c2, c3, rfl, ⟨A', c', rfl, hle, hr⟩, h3⟩⟩, hcell⟩ := hc k _ (List.getElem?_eq_getElem hk)
    obtain rfl : c0 = [.string l[k].1] := h0
    obtain rfl : c3 = [.bool l[k].2.2] := h3
    exact ⟨A', c', hle, hr, hcell⟩
  obtain ⟨A0, c0, _, _, hcell0⟩ := hall 0 (by omega)
  have hs : spot = none := by
    have := World.cell?_spot (hcell0 0 _ rfl)
    simpa [Addr.add] using this
  subst hs
  obtain ⟨A', c', hle, hr, hcell⟩ := hall k hk
  have g0 := hcell 0 _ rfl
  have g1 := hcell 1 _ rfl
  have g2 := hcell 2 _ rfl
  rw [Addr.add_lit] at g0 g1 g2
  obtain ⟨b1, b2⟩ := byteRow_of hr
  exact ⟨b, off, A', c', e, g0, by rw [Nat.add_assoc]; exact g1, by rw [Nat.add_assoc]; exact g2, hle, b1, b2⟩
theorem chgLen_of {w : World} {A : Option Addr} {l : List ChgD} (h : Kd.C kChg w A l.length l) : ∀ x ∈ l, x.2.1.length ≤ 9223372036854775807 := fun x hx => by
  obtain ⟨k, hk, rfl⟩ := List.getElem_of_mem hx
  obtain ⟨ad, e, hc⟩ := h.2.2 (by omega)
  obtain ⟨c, _, ⟨c0, c1, rfl, h0, ⟨c2, c3, rfl, ⟨A', c', rfl, hle, hr⟩, h3⟩⟩, hcell⟩ := hc k _ (List.getElem?_eq_getElem hk)
  exact hr.2.1
/-- Bytes in a block of their own. -/
def BytesIn (w : World) (A : Option Addr) (d : List Int) : Prop := (A = none ∧ d.length = 0) ∨ ∃ m cur fz, A = some ⟨m, 0, none⟩ ∧ w.heap[m]? = some (Obj.cells cur 5 fz) ∧ ∀ (j : Nat) u, (u8V d)[j]? = some u → cur[j]? = some u
theorem bytesIn_own {w : World} {base : Nat} {A : Option Addr} {n c : Nat} {d : List Int} (h : w.ownsRow base 5 1 (.slice A n c) n (u8V d)) : BytesIn w A d := by
  rcases h.2 with ⟨h1, h2⟩ | ⟨g, cap, cur, h1, _, h2, _, _, _, h3⟩
  · injection h1 with h1
    refine .inl ⟨h1, ?_⟩
    have := h.1
    simpa [u8V, h2] using this
  · injection h1 with h1
    refine .inr ⟨g, cur, _, h1, h2, fun j u hj => ?_⟩
    rw [← h3, List.getElem?_take] at hj
    split at hj
    · simpa using hj
    · cases hj
end Go.Proofs.YtkplkienbgoofaaDoor
