/-
  path.Set and the reference's, in one form for all outcomes.
-/
import Derived.Test.YtaaeobdihfbjfaaDoorPathSet
import Derived.Test.YtaaeobdihfbjfaaDoorRefSet
import Derived.Test.YtaaeobdihfbjfaaDoorArgs
set_option linter.unusedVariables false
set_option linter.unusedSimpArgs false
namespace Go.Proofs.YtaaeobdihfbjfaaDoor
open Go.RowKit
open Go.Proofs.YtaaeobdihfbjfaaDoorW.PrintWords (Kd ReadsRow)
/-- A row of texts that is read. -/
def TextRow (w : World) (A : Option Addr) (l : List ByteArray) : Prop := 0 < l.length → ∃ ad, A = some ad ∧ TextsIn w ad l
theorem textRow_of {w : World} {A : Option Addr} {l : List ByteArray} (h : Kd.C Kd.string w A l.length l) : TextRow w A l := by
  intro hn
  obtain ⟨ad, e, hc⟩ := h.2.2 hn
  refine ⟨ad, e, fun k hk => ?_⟩
  obtain ⟨c, _, hK, hcell⟩ := hc k _ (List.getElem?_eq_getElem hk)
  have hK' : c = [.string l[k]] := hK
  subst hK'
  have := hcell 0 _ rfl
  simpa [Kd.string, Kd.scalar] using this
theorem TextRow.below {w w' : World} {A : Option Addr} {l : List ByteArray} (h : TextRow w A l) (hb : Below w.heap.size w w') : TextRow w' A l := fun hn => by
  obtain ⟨ad, e, ht⟩ := h hn
  exact ⟨ad, e, ht.below hb⟩
def SetR.err : SetR → GErr
  | .none_ i => .joined i 90
  | .bad i c => .fault i c
  | .ok _ => .nil
def SetR.outs : SetR → List ByteArray
  | .ok xs => xs
  | _ => []
def SetR.at_ : SetR → Nat
  | .none_ i => i
  | .bad i _ => i
  | .ok _ => 0
theorem set_any (A : Option Addr) (c : Nat) (l : List ByteArray) (w : World) (hl : l.length ≤ 1000) (hc : TextRow w A l) (hz : ∀ s ∈ l, s.size ≤ 140737488351232) (hg : EnvM w) :
    Calls Tryd.prog 52 #[.slice A l.length c] w fun e w' => Below w.heap.size w w' ∧ ∃ v er, e = .returned (.tuple #[v, er]) ∧ ErrV w' er (setGo 0 [] l).err ∧ w'.ownsRow w.heap.size 9 1 v (setGo 0 [] l).outs.length (strs (setGo 0 [] l).outs) := by
  have key : Calls Tryd.prog 52 #[.slice A l.length c] w (SetPost w (setGo 0 [] l)) := by
    cases l with
    | nil => exact set_empty A c w
    | cons s r =>
      obtain ⟨ad, rfl, ht⟩ := hc (by simp)
      exact set_walk ad c (s :: r) w hl ht hz hg
  refine key.mono ?_
  rintro e w' ⟨hb, h⟩
  refine ⟨hb, ?_⟩
  cases hr : setGo 0 [] l with
  | none_ i =>
    rw [hr] at h
    obtain ⟨v, he, hv⟩ := h
    exact ⟨_, _, he, hv, ⟨rfl, .inl ⟨rfl, rfl⟩⟩⟩
  | bad i c =>
    rw [hr] at h
    obtain ⟨v, he, hv⟩ := h
    exact ⟨_, _, he, hv, ⟨rfl, .inl ⟨rfl, rfl⟩⟩⟩
  | ok xs =>
    rw [hr] at h
    obtain ⟨v, he, hv⟩ := h
    exact ⟨_, _, he, rfl, hv⟩
theorem rset_any (A : Option Addr) (c : Nat) (l : List ByteArray) (w : World) (hl : l.length ≤ 1000) (hc : TextRow w A l) (hz : ∀ s ∈ l, s.size ≤ 140737488351232) :
    Calls Tryd.prog 57 #[.slice A l.length c] w fun e w' => Below w.heap.size w w' ∧ ∃ v, e = .returned (.tuple #[v, .int .i64 (setGo 0 [] l).err.num, .int .i64 (setGo 0 [] l).at_]) ∧ w'.ownsRow w.heap.size 9 1 v (setGo 0 [] l).outs.length (strs (setGo 0 [] l).outs) := by
  have key : Calls Tryd.prog 57 #[.slice A l.length c] w (RSetPost w (setGo 0 [] l)) := by
    cases l with
    | nil => exact rset_empty A c w
    | cons s r =>
      obtain ⟨ad, rfl, ht⟩ := hc (by simp)
      exact rset_walk ad c (s :: r) w (by simp) hl ht hz
  refine key.mono ?_
  rintro e w' ⟨hb, h⟩
  refine ⟨hb, ?_⟩
  cases hr : setGo 0 [] l with
  | none_ i =>
    rw [hr] at h
    exact ⟨_, h, ⟨rfl, .inl ⟨rfl, rfl⟩⟩⟩
  | bad i c =>
    rw [hr] at h
    exact ⟨_, h, ⟨rfl, .inl ⟨rfl, rfl⟩⟩⟩
  | ok xs =>
    rw [hr] at h
    obtain ⟨v, he, hv⟩ := h
    exact ⟨_, he, hv⟩
theorem own_stay {w w1 : World} {base : Nat} {e : TypeId} {size n : Nat} {v : Value} {xs : List Value} (h : w.ownsRow base e size v n xs) (hb : Below w.heap.size w w1) : w1.ownsRow base e size v n xs :=
  h.kept (row := none) ⟨hb.os, hb.tape, hb.output, hb.size, fun i hi _ => hb.block i hi⟩ (by cases v.ownBlock <;> simp)
theorem own_row {w : World} {base : Nat} {v : Value} {xs : List ByteArray} (h : w.ownsRow base 9 1 v xs.length (strs xs)) : ∃ A c, v = .slice A xs.length c ∧ xs.length ≤ c ∧ TextRow w A xs := by
  by_cases h0 : 0 < xs.length
  · obtain ⟨g, cap, rfl, hc, ht⟩ := own_form h h0
    refine ⟨_, cap, rfl, hc, fun _ => ⟨_, rfl, fun k hk => ?_⟩⟩
    have := ht k hk
    rw [Addr.add_lit]
    exact this
  · have hx : xs.length = 0 := by omega
    rcases h.2 with ⟨rfl, _⟩ | ⟨g, cap, cur, rfl, _, _, hc, _⟩
    · exact ⟨none, 0, by rw [hx], by omega, fun h => absurd h h0⟩
    · exact ⟨_, cap, rfl, hc, fun h => absurd h h0⟩
theorem hit_two {s x : ByteArray} {c : Nat} (h : hit s x = some c) : c = 5 ∨ c = 90 := by
  unfold hit at h
  split at h
  · injection h with h; exact .inl h.symm
  · split at h
    · injection h with h; exact .inr h.symm
    · cases h
theorem scan_two {s : ByteArray} {c : Nat} : ∀ {xs : List ByteArray}, scan s xs = some c → c = 5 ∨ c = 90
  | [], h => by simp [scan] at h
  | x :: r, h => by
    rw [scan] at h
    cases hx : hit s x with
    | some d => rw [hx] at h; injection h with h; subst h; exact hit_two hx
    | none => rw [hx] at h; exact scan_two h
theorem setGo_two : ∀ (l : List ByteArray) (i : Nat) (xs : List ByteArray) {j c : Nat}, setGo i xs l = .bad j c → c = 5 ∨ c = 90
  | [], i, xs, j, c, h => by simp [setGo] at h
  | s :: r, i, xs, j, c, h => by
    rw [setGo] at h
    cases hc : checkB s with
    | some _ => simp [hc] at h
    | none =>
      cases hs : scan s xs with
      | some d => simp [hc, hs] at h; rw [← h.2]; exact scan_two hs
      | none => simp [hc, hs] at h; exact setGo_two r _ _ h
theorem setGo_len : ∀ (l : List ByteArray) (i : Nat) (xs : List ByteArray), (setGo i xs l).outs.length ≤ xs.length + l.length
  | [], i, xs => by simp [setGo, SetR.outs]
  | s :: r, i, xs => by
    rw [setGo]
    cases checkB s with
    | some _ => simp [SetR.outs]
    | none =>
      cases scan s xs with
      | some c => simp [SetR.outs]
      | none =>
        have := setGo_len r (i + 1) (ins s xs)
        rw [ins_length] at this
        simp only [List.length_cons]
        omega
end Go.Proofs.YtaaeobdihfbjfaaDoor
