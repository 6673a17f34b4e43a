/-
  Arguments in memory: what a datum that is read gives a walk, kind by kind.
-/
import Derived.Test.YtlidenehfmlebaaGreatDoorWWords
import Derived.ChangeArms
import Derived.Deep.Slices
import Derived.Deep.Strs
set_option linter.unusedVariables false
set_option linter.unusedSimpArgs false
namespace Go.Proofs.YtlidenehfmlebaaGreatDoor
open Go.RowKit Go.Deep Go.WideShapes
open Go.Proofs.YtlidenehfmlebaaGreatDoorW.PrintWords (Kd ReadsRow)
/-- Where a value of type t is read, its cells are a d that is good. -/
def Opens {α : Type} (P : Program) (t : TypeId) (d : Kd α) (good : α → Prop) : Prop :=
  ∀ {H : Type} {enc : TypeId × Value → H} {w : World} {base : Nat} {spare : Nat → Bool} {held : Bool} {fuel : Nat} {cs : List Value} {x : DataW H × List MemPlace},
    DataW.trod enc P w base spare held fuel t cs = some x → ∃ y, d.K w y cs ∧ good y
theorem opens_int {P : Program} {t : TypeId} {k : IntKind} (ht : P.underlying t = some (.int k)) : Opens P t (Kd.int k) (fun n => (Lit.int k n).wf = true) := by
  intro H enc w base spare held fuel cs x h
  obtain ⟨n, rfl, _, hw⟩ := DataW.trod_int ht h
  exact ⟨n, rfl, hw⟩
theorem opens_bool {P : Program} {t : TypeId} (ht : P.underlying t = some .bool) : Opens P t Kd.bool (fun _ => True) := by
  intro H enc w base spare held fuel cs x h
  obtain ⟨n, rfl, _⟩ := DataW.trod_bool ht h
  exact ⟨n, rfl, trivial⟩
theorem opens_string {P : Program} {t : TypeId} (ht : P.underlying t = some .string) : Opens P t Kd.string (fun s => s.size ≤ maxLen) := by
  intro H enc w base spare held fuel cs x h
  obtain ⟨n, rfl, _, hs⟩ := DataW.trod_string ht h
  exact ⟨n, rfl, hs⟩
theorem list_of {α : Type} {Q : Nat → α → Prop} : ∀ n, (∀ i, i < n → ∃ p, Q i p) → ∃ xs : List α, xs.length = n ∧ ∀ i p, xs[i]? = some p → Q i p
  | 0, _ => ⟨[], rfl, fun i p h => by simp at h⟩
  | n + 1, h => by
    obtain ⟨xs, hl, hx⟩ := list_of n (fun i hi => h i (by omega))
    obtain ⟨p, hp⟩ := h n (by omega)
    refine ⟨xs ++ [p], by simp [hl], fun i q hq => ?_⟩
    rcases Nat.lt_or_ge i xs.length with hi | hi
    · rw [List.getElem?_append_left hi] at hq
      exact hx i q hq
    · rw [List.getElem?_append_right hi] at hq
      obtain ⟨h1, h2⟩ := List.getElem?_eq_some_iff.1 hq
      have h3 : i = n := by simp at h1; omega
      subst h3
      simp at h2
      rw [← h2]; exact hp
/-- A slice: its form, and what it reads. -/
def SliceArg {α : Type} (d : Kd α) (w : World) (v : Value) (xs : List α) : Prop := ∃ A c, v = .slice A xs.length c ∧ xs.length ≤ c ∧ c ≤ maxLen ∧ d.C w A xs.length xs
theorem opens_row {α : Type} {P : Program} {t e : TypeId} {d : Kd α} {good : α → Prop} (ht : P.underlying t = some (.slice e)) (hc : P.cellsOf e = d.sz) (he : Opens P e d good)
    {H : Type} {enc : TypeId × Value → H} {w : World} {base : Nat} {spare : Nat → Bool} {held : Bool} {fuel : Nat} {cs : List Value} {x : DataW H × List MemPlace}
    (h : DataW.trod enc P w base spare held fuel t cs = some x) : ∃ (xs : List α) (A : Option Addr) (c : Nat), cs = [.slice A xs.length c] ∧ xs.length ≤ c ∧ c ≤ maxLen ∧ d.C w A xs.length xs ∧ ∀ x ∈ xs, good x := by
  rcases open_slice ht h with ⟨rfl, _⟩ | ⟨a, len, cap, m, n, D, Pl, rfl, hb, hl, hm, hmm, _, hx⟩
  · exact ⟨[], none, 0, rfl, Nat.le_refl _, by simp, ⟨rfl, by simp, fun h => absurd h (by simp)⟩, fun x hx => by cases hx⟩
  · have hlm : len ≤ m := by rw [hmm]; split <;> omega
    obtain ⟨xs, hxl, hxs⟩ := list_of (Q := fun i (p : α) => (∃ c, c.length = d.sz ∧ d.K w p c ∧ ∀ j u, c[j]? = some u → w.cell? (a.add (i * d.sz + j)) = some u) ∧ good p) len (fun i hi => by
      obtain ⟨cs', h1, h2⟩ := hx i (by omega)
      obtain ⟨y, hK, hg⟩ := he h2
      obtain ⟨h3, hlen, hcell⟩ := World.cells?_some h1
      refine ⟨y, ⟨cs', d.K_len hK, hK, fun j u hj => ?_⟩, hg⟩
      have hjl := (List.getElem?_eq_some_iff.1 hj).1
      have := hcell j (by omega)
      rw [hc, Addr.add_add] at this
      rw [← hj, ← this])
    subst hxl
    refine ⟨xs, some a, cap, rfl, hl, hm, ⟨rfl, by have := hm; simp only [maxLen] at this; omega, fun _ => ⟨a, rfl, fun j p hj => (hxs j p hj).1⟩⟩, fun x hx => ?_⟩
    obtain ⟨i, hi, rfl⟩ := List.getElem_of_mem hx
    exact (hxs i _ (List.getElem?_eq_getElem hi)).2
theorem opens_slice {α : Type} {P : Program} {t e : TypeId} {d : Kd α} {good : α → Prop} (ht : P.underlying t = some (.slice e)) (hc : P.cellsOf e = d.sz) (he : Opens P e d good) :
    Opens P t (Kd.slice e d) (fun xs => ∀ x ∈ xs, good x) := by
  intro H enc w base spare held fuel cs x h
  obtain ⟨xs, A, c, rfl, hl, _, hr, hg⟩ := opens_row ht hc he h
  exact ⟨xs, ⟨A, c, rfl, hl, hr⟩, hg⟩
/-- An argument that is a slice. -/
theorem arg_slice {α : Type} {P : Program} {t e : TypeId} {d : Kd α} {good : α → Prop} (ht : P.underlying t = some (.slice e)) (hc : P.cellsOf e = d.sz) (he : Opens P e d good)
    {H : Type} {enc : TypeId × Value → H} {w : World} {base : Nat} {spare : Nat → Bool} {held : Bool} {a : Option Addr} {len cap : Nat} {x : DataW H} {ps : List MemPlace}
    (h : DataW.Trod enc P w base spare held t (.slice a len cap) x ps) : ∃ xs : List α, SliceArg d w (.slice a len cap) xs ∧ ∀ x ∈ xs, good x := by
  obtain ⟨fuel, hf⟩ := h
  obtain ⟨xs, A, c, hcs, hl, hm, hr, hg⟩ := opens_row ht hc he hf
  have e1 : (Value.slice a len cap).cells.toList = [.slice a len cap] := rfl
  have e2 : Value.slice a len cap = .slice A xs.length c := by
    have : [Value.slice a len cap] = [.slice A xs.length c] := by rw [← hcs]; rfl
    exact List.head_eq_of_cons_eq this
  exact ⟨xs, ⟨A, c, e2, hl, hm, hr⟩, hg⟩
/-- .. of a struct's fields, from a cell on. -/
def OpensF {α : Type} (P : Program) (fs : List Field) (off : Nat) (d : Kd α) (good : α → Prop) : Prop :=
  ∀ {H : Type} {enc : TypeId × Value → H} {w : World} {base : Nat} {spare : Nat → Bool} {held : Bool} {n : Nat} {cs : List Value},
    (∀ f ∈ fs, ∃ y, DataW.trod enc P w base spare held n f.type ((cs.drop f.offset).take (P.cellsOf f.type)) = some y) → cs.length = off + d.sz → ∃ y, d.K w y (cs.drop off) ∧ good y
theorem opensF_last {α : Type} {P : Program} {f : Field} {off : Nat} {d : Kd α} {good : α → Prop} (ho : f.offset = off) (hc : P.cellsOf f.type = d.sz) (h : Opens P f.type d good) : OpensF P [f] off d good := by
  intro H enc w base spare held n cs hf hl
  obtain ⟨y, hy⟩ := hf f (by simp)
  rw [ho, hc, List.take_of_length_le (by rw [List.length_drop]; omega)] at hy
  exact h hy
theorem opensF_cons {α β : Type} {P : Program} {f : Field} {fs : List Field} {off : Nat} {d : Kd α} {good : α → Prop} {d' : Kd β} {good' : β → Prop} (ho : f.offset = off) (hc : P.cellsOf f.type = d.sz) (h : Opens P f.type d good) (hr : OpensF P fs (off + d.sz) d' good') :
    OpensF P (f :: fs) off (Kd.pair d d') (fun p => good p.1 ∧ good' p.2) := by
  intro H enc w base spare held n cs hf hl
  obtain ⟨y, hy⟩ := hf f (by simp)
  rw [ho, hc] at hy
  obtain ⟨p, hp, hg⟩ := h hy
  have hsz : (Kd.pair d d').sz = d.sz + d'.sz := rfl
  obtain ⟨q, hq, hg'⟩ := hr (fun f hf' => hf f (List.mem_cons_of_mem _ hf')) (by omega)
  refine ⟨(p, q), ⟨_, _, ?_, hp, hq⟩, hg, hg'⟩
  rw [← List.drop_drop, List.take_append_drop]
theorem opens_struct {α : Type} {P : Program} {t : TypeId} {fs : Array Field} {d : Kd α} {good : α → Prop} (ht : P.underlying t = some (.struct fs)) (hc : P.cellsOf t = d.sz) (h : OpensF P fs.toList 0 d good) : Opens P t d good := by
  intro H enc w base spare held fuel cs x hx
  obtain ⟨xs, n, _, _, hl, hlen, hf⟩ := DataW.trod_struct ht hx
  have := h (enc := enc) (w := w) (base := base) (spare := spare) (held := held) (n := n) (cs := cs) (fun f hf' => by
    obtain ⟨i, hi, e⟩ := List.getElem_of_mem hf'
    have h1 : fs[i]? = some f := by rw [← e]; simp at hi; simp [hi]
    have h2 := hf i f h1
    have h3 : i < xs.length := by simp at hi; omega
    rw [List.getElem?_eq_getElem h3] at h2
    exact ⟨_, h2⟩) (by omega)
  simpa using this
end Go.Proofs.YtlidenehfmlebaaGreatDoor
