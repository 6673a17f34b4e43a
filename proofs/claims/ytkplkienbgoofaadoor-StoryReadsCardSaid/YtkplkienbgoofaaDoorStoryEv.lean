/-
  Rows of events of the call's own; what Replay makes of files that are sent one after the other.
-/
import Derived.Test.YtkplkienbgoofaaDoorStoryHead
import Derived.Test.YtkplkienbgoofaaDoorClone
set_option linter.unusedVariables false
set_option linter.unusedSimpArgs false
namespace Go.Proofs.YtkplkienbgoofaaDoor
open Go.RowKit Go.Maps Go.WideMaps Go.WideAt
open Go.Proofs.YtkplkienbgoofaaDoorW.PrintWords (Kd ReadsRow)
structure ERow where
  ev : EvD
  fa : Option Addr
  fc : Nat
def ERow.cells (r : ERow) : List Value := [.bool r.ev.1, .int .i64 r.ev.2.1, .int .i64 r.ev.2.2.1, .string r.ev.2.2.2.1, .string r.ev.2.2.2.2.1, .slice r.fa r.ev.2.2.2.2.2.length r.fc]
def flatE (q : List ERow) : List Value := q.flatMap ERow.cells
theorem flatE_length (q : List ERow) : (flatE q).length = q.length * 6 := by
  induction q with
  | nil => rfl
  | cons a r ih => simp only [flatE, List.flatMap_cons, List.length_append] at *; rw [ih]; simp [ERow.cells]; omega
theorem flatE_append (q r : List ERow) : flatE (q ++ r) = flatE q ++ flatE r := by simp [flatE]
theorem flatE_get : ∀ (q : List ERow) (k : Nat) (hk : k < q.length) (j : Nat), j < 6 → (flatE q)[k * 6 + j]? = (q[k].cells)[j]?
  | a :: r, 0, _, j, hj => by
    simp only [flatE, List.flatMap_cons, List.getElem_cons_zero, Nat.zero_mul, Nat.zero_add]
    rw [List.getElem?_append_left (by simp [ERow.cells]; exact hj)]
  | a :: r, k + 1, hk, j, hj => by
    simp only [flatE, List.flatMap_cons, List.getElem_cons_succ]
    rw [List.getElem?_append_right (by simp [ERow.cells]; omega)]
    have := flatE_get r k (by simpa using hk) j hj
    rw [← this]
    congr 1
    simp [ERow.cells]; omega
def GoodE (w : World) (r : ERow) : Prop := r.ev.2.2.2.2.2.length ≤ r.fc ∧ ChgRow w r.fa r.ev.2.2.2.2.2
theorem GoodE.below {w w' : World} {r : ERow} (h : GoodE w r) (hb : Below w.heap.size w w') : GoodE w' r := ⟨h.1, h.2.below hb⟩
theorem evRow_own {w : World} {base : Nat} {v : Value} {q : List ERow} (h : w.ownsRow base 28 6 v q.length (flatE q)) (hg : ∀ r ∈ q, GoodE w r) : ∃ A c, v = .slice A (q.map ERow.ev).length c ∧ (q.map ERow.ev).length ≤ c ∧ EvRow w A (q.map ERow.ev) := by
  rw [List.length_map]
  rcases h.2 with ⟨rfl, h0⟩ | ⟨b, cap, cur, rfl, _, _, hcap, _⟩
  · exact ⟨none, 0, by rw [h0], by omega, fun k hk => by simp at hk; omega⟩
  · refine ⟨_, cap, rfl, hcap, fun k hk => ?_⟩
    have hk : k < q.length := by simpa using hk
    have e : ∀ j, j < 6 → w.cell? ⟨b, k * 6 + j, none⟩ = (q[k].cells)[j]? := fun j hj => by
      rw [h.cellAt (k * 6 + j) (by omega), flatE_get q k hk j hj]
    have hgk := hg _ (List.getElem_mem hk)
    refine ⟨b, 0, q[k].fa, q[k].fc, rfl, ?_⟩
    simp only [List.getElem_map, Nat.zero_add]
    exact ⟨e 0 (by omega), e 1 (by omega), e 2 (by omega), e 3 (by omega), e 4 (by omega), e 5 (by omega), hgk.1, hgk.2⟩
theorem evRow_rows {w : World} {A : Option Addr} {l : List EvD} (h : EvRow w A l) : ∃ q : List ERow, q.map ERow.ev = l ∧ (∀ r ∈ q, GoodE w r) ∧ ∀ ad, A = some ad → ∀ (j : Nat) u, (flatE q)[j]? = some u → w.cell? (ad.add j) = some u := by
  have hx : ∀ k : Fin l.length, ∃ r : ERow, r.ev = l[k] ∧ GoodE w r ∧ ∃ b off, A = some ⟨b, off, none⟩ ∧ ∀ j, j < 6 → w.cell? ⟨b, off + k * 6 + j, none⟩ = (r.cells)[j]? := fun k => by
    obtain ⟨b, off, A', c', rfl, h0, h1, h2, h3, h4, h5, h6, h7⟩ := h k k.2
    refine ⟨⟨l[k], A', c'⟩, rfl, ⟨h6, h7⟩, b, off, rfl, fun j hj => ?_⟩
    match j, hj with
    | 0, _ => exact h0
    | 1, _ => exact h1
    | 2, _ => exact h2
    | 3, _ => exact h3
    | 4, _ => exact h4
    | 5, _ => exact h5
  obtain ⟨f, hf⟩ : ∃ f : Fin l.length → ERow, ∀ k : Fin l.length, (f k).ev = l[k] ∧ GoodE w (f k) ∧ ∃ b off, A = some ⟨b, off, none⟩ ∧ ∀ j, j < 6 → w.cell? ⟨b, off + k * 6 + j, none⟩ = ((f k).cells)[j]? := ⟨fun k => Classical.choose (hx k), fun k => Classical.choose_spec (hx k)⟩
  have hql : (List.ofFn f).length = l.length := by simp
  refine ⟨List.ofFn f, ?_, ?_, ?_⟩
  · refine List.ext_getElem (by simp) (fun k h1 h2 => ?_)
    simp only [List.getElem_map, List.getElem_ofFn]
    exact (hf ⟨k, h2⟩).1
  · intro r hr
    obtain ⟨k, hk, rfl⟩ := List.getElem_of_mem hr
    rw [List.getElem_ofFn]
    exact (hf _).2.1
  · intro ad e j u hj
    have hjl : j < l.length * 6 := by
      have := (List.getElem?_eq_some_iff.1 hj).1
      rw [flatE_length, hql] at this
      exact this
    have hk : j / 6 < l.length := by omega
    have hj6 : j / 6 * 6 + j % 6 = j := by omega
    obtain ⟨b, off, e2, hc⟩ := (hf ⟨j / 6, hk⟩).2.2
    have hg := flatE_get (List.ofFn f) (j / 6) (by omega) (j % 6) (by omega)
    rw [hj6, hj, List.getElem_ofFn] at hg
    have hc2 := hc (j % 6) (by omega)
    rw [← hg] at hc2
    have : ad = ⟨b, off, none⟩ := Option.some.inj (e.symm.trans e2)
    rw [this, Addr.add_lit, ← hc2]
    show World.cell? w ⟨b, off + j, none⟩ = World.cell? w ⟨b, off + j / 6 * 6 + j % 6, none⟩
    rw [Nat.add_assoc, hj6]
/-- Files that are sent, one event after the other. -/
def pushE : Nat → List (List ChgD) → List EvD
  | _, [] => []
  | n, c :: t => (true, 0, ((n + 1 : Nat) : Int), ⟨#[]⟩, ⟨#[]⟩, c) :: pushE (n + 1) t
theorem pushE_length : ∀ (n : Nat) (ls : List (List ChgD)), (pushE n ls).length = ls.length
  | _, [] => rfl
  | n, c :: t => by simp [pushE, pushE_length (n + 1) t]
theorem pushE_snoc : ∀ (n : Nat) (ls : List (List ChgD)) (c : List ChgD), pushE n (ls ++ [c]) = pushE n ls ++ [(true, 0, ((n + ls.length + 1 : Nat) : Int), ⟨#[]⟩, ⟨#[]⟩, c)]
  | n, [], c => by simp [pushE]
  | n, a :: t, c => by
    rw [List.cons_append, pushE, pushE, pushE_snoc (n + 1) t c, List.cons_append]
    congr 4
    simp only [List.length_cons]
    congr 3
    omega
/-- The maps behind them. -/
def mapsM : FM → List (List ChgD) → List FM
  | _, [] => []
  | M, c :: t => applyM M c :: mapsM (applyM M c) t
theorem mapsM_length : ∀ (M : FM) (ls : List (List ChgD)), (mapsM M ls).length = ls.length
  | _, [] => rfl
  | M, c :: t => by simp [mapsM, mapsM_length (applyM M c) t]
theorem replay_push : ∀ (ls : List (List ChgD)) (Ms : List FM) (i : Nat), Ms.length = i + 1 → replayM Ms i (pushE i ls) = .ok (Ms ++ mapsM (Ms.getLastD []) ls)
  | [], Ms, i, h => by simp [pushE, mapsM, replayM]
  | c :: t, Ms, i, h => by
    rw [pushE, replayM, if_pos (by simp [h]), replay_push t _ (i + 1) (by simp [h])]
    simp [mapsM, List.getLastD_eq_getLast?]
theorem replay_pushes (ls : List (List ChgD)) : replayM [[]] 0 (pushE 0 ls) = .ok ([[]] ++ mapsM [] ls) := replay_push ls [[]] 0 rfl
/-- The map behind the first lists of changes. -/
def nowM (l : List (List ChgD)) (k : Nat) : FM := (l.take k).foldl applyM []
theorem nowM_succ {l : List (List ChgD)} {k : Nat} (h : k < l.length) : nowM l (k + 1) = applyM (nowM l k) l[k] := by
  rw [nowM, List.take_succ_eq_append_getElem h, List.foldl_append]
  rfl
theorem mapsM_get : ∀ (l : List (List ChgD)) (M : FM) (k : Nat), k ≤ l.length → (M :: mapsM M l)[k]? = some ((l.take k).foldl applyM M)
  | [], M, k, h => by
    obtain rfl : k = 0 := by simpa using h
    rfl
  | c :: t, M, 0, h => rfl
  | c :: t, M, k + 1, h => by
    rw [mapsM, List.getElem?_cons_succ, mapsM_get t (applyM M c) k (by simpa using h)]
    rfl
theorem nowM_len {l : List (List ChgD)} (h : ∀ c ∈ l, c.length ≤ 1000) : ∀ k, (nowM l k).length ≤ 1000 * k
  | 0 => by simp [nowM]
  | k + 1 => by
    have ih := nowM_len h k
    by_cases hk : k < l.length
    · rw [nowM_succ hk]
      have h1 := applyM_len (nowM l k) l[k]
      have h2 := h _ (List.getElem_mem hk)
      omega
    · have e : nowM l (k + 1) = nowM l k := by rw [nowM, nowM, List.take_of_length_le (by omega), List.take_of_length_le (by omega)]
      rw [e]; omega
end Go.Proofs.YtkplkienbgoofaaDoor
