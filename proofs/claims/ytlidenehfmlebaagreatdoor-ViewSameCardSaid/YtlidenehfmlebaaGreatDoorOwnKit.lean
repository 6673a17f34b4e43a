/-
  Small facts on own rows, rows that are read, and blocks.
-/
import Derived.Test.YtlidenehfmlebaaGreatDoorPathSet
import Derived.Test.YtlidenehfmlebaaGreatDoorArgs
import Derived.Test.YtlidenehfmlebaaGreatDoorMaps
set_option linter.unusedVariables false
set_option linter.unusedSimpArgs false
namespace Go.Proofs.YtlidenehfmlebaaGreatDoor
open Go.RowKit Go.Maps Go.WideMaps
open Go.Proofs.YtlidenehfmlebaaGreatDoorW.PrintWords (Kd ReadsRow)
theorem below_drewN {B : Nat} {w W : World} (h : Below B w W) (n : Nat) : Below B w (W.drewN n) := ⟨h.os, h.tape, h.output, h.size, h.block⟩
/-- A row of texts that is read. -/
def TextRow (w : World) (A : Option Addr) (l : List ByteArray) : Prop := 0 < l.length → ∃ ad, A = some ad ∧ TextsIn w ad l
theorem textRow_of {w : World} {A : Option Addr} {l : List ByteArray} (h : Kd.C Kd.string w A l.length l) : TextRow w A l := by
  intro hn
  obtain ⟨ad, e, hc⟩ := h.2.2 hn
  refine ⟨ad, e, fun k hk => ?_⟩
  obtain ⟨c, _, hK, hcell⟩ := hc k _ (List.getElem?_eq_getElem hk)
  have hK' : c = [.string l[k]] := hK
  subst hK'
  have := hcell 0 _ rfl
  simpa [Kd.string, Kd.scalar] using this
theorem TextRow.below {w w' : World} {A : Option Addr} {l : List ByteArray} (h : TextRow w A l) (hb : Below w.heap.size w w') : TextRow w' A l := fun hn => by
  obtain ⟨ad, e, ht⟩ := h hn
  exact ⟨ad, e, ht.below hb⟩
theorem own_stay {w w1 : World} {base : Nat} {e : TypeId} {size n : Nat} {v : Value} {xs : List Value} (h : w.ownsRow base e size v n xs) (hb : Below w.heap.size w w1) : w1.ownsRow base e size v n xs :=
  h.kept (row := none) ⟨hb.os, hb.tape, hb.output, hb.size, fun i hi _ => hb.block i hi⟩ (by cases v.ownBlock <;> simp)
theorem own_row {w : World} {base : Nat} {v : Value} {xs : List ByteArray} (h : w.ownsRow base 9 1 v xs.length (strs xs)) : ∃ A c, v = .slice A xs.length c ∧ xs.length ≤ c ∧ TextRow w A xs := by
  by_cases h0 : 0 < xs.length
  · obtain ⟨g, cap, rfl, hc, ht⟩ := own_form h h0
    refine ⟨_, cap, rfl, hc, fun _ => ⟨_, rfl, fun k hk => ?_⟩⟩
    have := ht k hk
    rw [Addr.add_lit]
    exact this
  · have hx : xs.length = 0 := by omega
    rcases h.2 with ⟨rfl, _⟩ | ⟨g, cap, cur, rfl, _, _, hc, _⟩
    · exact ⟨none, 0, by rw [hx], by omega, fun h => absurd h h0⟩
    · exact ⟨_, cap, rfl, hc, fun h => absurd h h0⟩
theorem lt_of_block {w : World} {k : Nat} {o : Obj} (h : w.heap[k]? = some o) : k < w.heap.size := (Array.getElem?_eq_some_iff.1 h).1
theorem ret_bool {a b : Bool} (h : a = b) : Ending.returned (.bool a) = .returned (.bool b) := by rw [h]
theorem grown_trans {a b c : World} {row : Option Nat} (h1 : a.grownBy b row) (h2 : b.grownBy c row) : a.grownBy c row :=
  ⟨h2.os.trans h1.os, h2.tape.trans h1.tape, h2.output.trans h1.output, Nat.le_trans h1.size h2.size, fun k hk hne => (h2.block k (Nat.lt_of_lt_of_le hk h1.size) hne).trans (h1.block k hk hne)⟩
theorem MapAs.isMap {w : World} {P : Program} {k : TypeId} {b n : Nat} {m : Lit → Option Value} (h : MapAs w P k b n m) : ∃ es clock, w.heap[b]? = some (.map es clock) := by
  obtain ⟨D, ⟨es, clock, h1, _⟩, _⟩ := h
  exact ⟨es, clock, h1⟩
/-- What isn't the map's block stays while the map is written. -/
theorem own_mapped {w w' : World} {base n size b : Nat} {e : TypeId} {v : Value} {xs : List Value} {es : Array MapEntry} {clock : Nat} (h : w.ownsRow base e size v n xs) (hb : w.heap[b]? = some (.map es clock)) (hg : w.grownBy w' (some b)) : w'.ownsRow base e size v n xs := by
  obtain ⟨h1, h2⟩ := h
  refine ⟨h1, ?_⟩
  rcases h2 with h2 | ⟨g, cap, cur, rfl, hbb, hh, r⟩
  · exact .inl h2
  · refine .inr ⟨g, cap, cur, rfl, hbb, (hg.block g (lt_of_block hh) (fun e => ?_)).trans hh, r⟩
    have : g = b := Option.some.inj e
    rw [this, hb] at hh
    cases hh
theorem own_ne {w : World} {base n size b : Nat} {e : TypeId} {v : Value} {xs : List Value} {es : Array MapEntry} {clock : Nat} (h : w.ownsRow base e size v n xs) (hb : w.heap[b]? = some (.map es clock)) : some b ≠ v.ownBlock := by
  rcases h.2 with ⟨rfl, _⟩ | ⟨g, cap, cur, rfl, _, hh, _⟩
  · simp [Value.ownBlock]
  · intro e2
    have : b = g := by simpa [Value.ownBlock] using e2
    rw [← this, hb] at hh
    cases hh
theorem ints_form {w : World} {base n : Nat} {e : TypeId} {v : Value} {xs : List Value} (h : w.ownsRow base e 1 v n xs) : ∃ A c, v = .slice A n c ∧ n ≤ c := by
  rcases h.2 with ⟨rfl, rfl⟩ | ⟨g, cap, cur, rfl, _, _, hc, _⟩
  · exact ⟨_, _, rfl, by omega⟩
  · exact ⟨_, _, rfl, hc⟩
theorem block_below {w w' : World} {b : Nat} {o : Obj} (h : w.heap[b]? = some o) (hb : Below w.heap.size w w') : w'.heap[b]? = some o := (hb.block b (lt_of_block h)).trans h
/-- A block of another type stays while a row grows. -/
theorem op_grown {w w' : World} {base n size b : Nat} {e t : TypeId} {v : Value} {xs : List Value} {cs : Array Value} (h : w.heap[b]? = some (.cells cs t (0, 0))) (ho : w.ownsRow base e size v n xs) (hne : t ≠ e) (hg : w.grownBy w' v.ownBlock) : w'.heap[b]? = some (.cells cs t (0, 0)) := by
  refine (hg.block b (lt_of_block h) (fun e2 => ?_)).trans h
  rcases ho.2 with ⟨rfl, _⟩ | ⟨g, cap, cur, rfl, _, hh, _⟩
  · simp [Value.ownBlock] at e2
  · have : b = g := by simpa [Value.ownBlock] using e2
    rw [this, hh] at h
    injection h with h
    injection h with _ h2
    exact hne h2.symm
theorem src_two (w : World) (a b : Value) (t : TypeId) : ∀ j u, ([a, b] : List Value)[j]? = some u → (w.alloc (.cells #[a, b] t)).cell? ((⟨w.heap.size, 0, none⟩ : Addr).add j) = some u := by
  intro j u hj
  rw [Addr.add_lit, World.cell?_alloc_at _ _ _ _ rfl]
  match j, hj with
  | 0, hj => simpa using hj
  | 1, hj => simpa using hj
/-- Whole numbers that are read. -/
def IntRow (w : World) (A : Option Addr) (l : List Int) : Prop := 0 < l.length → ∃ ad, A = some ad ∧ ∀ k (h : k < l.length), w.cell? (ad.add k) = some (.int .i64 l[k])
theorem IntRow.below {w w' : World} {A : Option Addr} {l : List Int} (h : IntRow w A l) (hb : Below w.heap.size w w') : IntRow w' A l := fun hn => by
  obtain ⟨ad, e, hc⟩ := h hn
  exact ⟨ad, e, fun k hk => cell_below hb (hc k hk)⟩
theorem cell_grown {w w' : World} {b : Nat} (hb : ∀ cs t fr, w.heap[b]? ≠ some (Obj.cells cs t fr)) (hg : w.grownBy w' (some b)) {a : Addr} {v : Value} (h : w.cell? a = some v) : w'.cell? a = some v := by
  refine hg.cell h (fun e => ?_)
  injection e with e
  unfold World.cell? at h
  rw [e] at h
  split at h
  · rename_i cs t fr hh
    exact hb _ _ _ hh
  · cases h
theorem IntRow.grown {w w' : World} {A : Option Addr} {l : List Int} {b : Nat} (hb : ∀ cs t fr, w.heap[b]? ≠ some (Obj.cells cs t fr)) (h : IntRow w A l) (hg : w.grownBy w' (some b)) : IntRow w' A l := fun hn => by
  obtain ⟨ad, e, hc⟩ := h hn
  exact ⟨ad, e, fun k hk => cell_grown hb hg (hc k hk)⟩
theorem intRow_of {w : World} {A : Option Addr} {l : List Int} (h : Kd.C (Kd.int .i64) w A l.length l) : IntRow w A l := by
  intro hn
  obtain ⟨ad, e, hc⟩ := h.2.2 hn
  refine ⟨ad, e, fun k hk => ?_⟩
  obtain ⟨c, _, hK, hcell⟩ := hc k _ (List.getElem?_eq_getElem hk)
  have hK' : c = [.int .i64 l[k]] := hK
  subst hK'
  have := hcell 0 _ rfl
  simpa [Kd.int, Kd.scalar] using this
theorem intRow_none {w : World} {A : Option Addr} : IntRow w A [] := fun h => by simp at h
def i64V (l : List Int) : List Value := l.map (Value.int .i64)
theorem i64V_one (l : List Int) : ∀ u ∈ i64V l, u.oneCell' = true := fun u hu => by
  obtain ⟨x, _, rfl⟩ := List.mem_map.1 hu
  rfl
theorem own_intRow {w : World} {base : Nat} {v : Value} {l : List Int} (h : w.ownsRow base 3 1 v l.length (i64V l)) : ∃ A c, v = .slice A l.length c ∧ l.length ≤ c ∧ IntRow w A l := by
  have h' := h
  rcases h.2 with ⟨rfl, h0⟩ | ⟨g, cap, cur, rfl, _, _, hc, _⟩
  · exact ⟨none, 0, by rw [h0], by omega, fun hn => by omega⟩
  · refine ⟨_, cap, rfl, hc, fun _ => ⟨_, rfl, fun k hk => ?_⟩⟩
    rw [Addr.add_lit, Nat.zero_add]
    have := h'.cellAt k (by omega)
    rw [this]
    simp [i64V, hk]
end Go.Proofs.YtlidenehfmlebaaGreatDoor
