/-
  (*Tree).Commit, walked; New.
-/
import Derived.Test.YtkplkienbgoofaaDoorTreeCommit
import Derived.Deep.RegionHeld3
import Derived.Deep.DrawnRows
import Derived.Deep.AppendLies
set_option linter.unusedVariables false
set_option linter.unusedSimpArgs false
namespace Go.Proofs.YtkplkienbgoofaaDoor
open Go.RowKit Go.Maps Go.WideMaps Go.WideAt
open Go.Sort (grow)
open Go.Proofs.YtkplkienbgoofaaDoorW.PrintWords (Kd ReadsRow)
attribute [local go_sem ↓] Go.wp_at_zero Go.wp_at_succ
theorem errV_iface {w : World} {er : Value} {g : GErr} (h : ErrV w er g) (hn : g ≠ .nil) : ∃ t v, er = .iface t v := by
  cases g with
  | nil => exact absurd rfl hn
  | errno e => exact ⟨_, _, h⟩
  | fault p e => obtain ⟨b, rfl, _⟩ := h; exact ⟨_, _, rfl⟩
  | joined p e => exact h.elim
theorem chkGo_small {T : ByteArray → Bool} : ∀ {l : List ChgD} {i : Nat} {seen after : List ByteArray} {n : Nat} {af : List ByteArray} {m : Nat}, chkGo T i seen after n l = .ok af m → ∀ c ∈ l, checkB c.1 = none
  | c :: r, i, seen, after, n, af, m, h, x, hx => by
    rw [chkGo] at h
    split at h
    · cases h
    · rename_i h1
      split at h
      · cases h
      · split at h
        · cases h
        · split at h
          · cases h
          · rcases List.mem_cons.1 hx with rfl | hx
            · cases hc : checkB x.1 with
              | none => rfl
              | some q => simp [hc] at h1
            · exact chkGo_small h x hx
theorem chkT_small {now : Nat} {F : List FileS} {l : List ChgD} (h : chkT now F l = .nil) : ∀ c ∈ l, c.1.size ≤ 64 := by
  unfold chkT at h
  cases hc : chkGo (thereB F now) 0 [] [] 0 l with
  | bad i cd => rw [hc] at h; cases h
  | ok af m =>
    intro c hcm
    have h1 := chkGo_small hc c hcm
    unfold checkB at h1
    by_cases h64 : c.1.size ≤ 64
    · exact h64
    · rw [if_pos (by simp; right; omega)] at h1; cases h1
theorem src_three (w : World) (a b c : Value) (t : TypeId) : ∀ j u, ([a, b, c] : List Value)[j]? = some u → (w.alloc (.cells #[a, b, c] t)).cell? ((⟨w.heap.size, 0, none⟩ : Addr).add j) = some u := by
  intro j u hj
  rw [Addr.add_lit, World.cell?_alloc_at _ _ _ _ rfl]
  match j, hj with
  | 0, hj => simpa using hj
  | 1, hj => simpa using hj
  | 2, hj => simpa using hj
theorem put_rows {F : List FileS} {p : ByteArray} {v : Value} {r : SRow} {m : Nat} (h : ∀ f ∈ F, f.rows.length ≤ m) : ∀ f ∈ putS F p v r, f.rows.length ≤ m + 1 := fun f hf => by
  rcases put_mem hf with ⟨h1, _⟩ | rfl | ⟨f0, hf0, _, rfl⟩
  · have := h f h1; omega
  · show (_ ++ [r]).length ≤ _
    rw [List.length_append, List.length_singleton]
    cases hfo : fileOf F p with
    | none => simp
    | some f0 =>
      have := h f0 (file_mem hfo).1
      simp only
      omega
  · have := h f0 hf0
    simp
    omega
theorem rowsOf_le {F : List FileS} {p : ByteArray} {m : Nat} (h : ∀ f ∈ F, f.rows.length ≤ m) : (rowsOf F p).length ≤ m := by
  unfold rowsOf
  cases hfo : fileOf F p with
  | none => simp
  | some f0 => exact h f0 (file_mem hfo).1
theorem mapN_le {F : List FileS} {m : Nat} (h : ∀ f ∈ F, f.rows.length ≤ m) : mapN F ≤ F.length * m := by
  induction F with
  | nil => simp [mapN]
  | cons a r ih =>
    have h1 := h a (by simp)
    have h2 := ih (fun f hf => h f (by simp [hf]))
    simp only [mapN, List.map_cons, List.sum_cons, List.length_cons] at h2 ⊢
    rw [Nat.succ_mul]
    omega
theorem one_own {w : World} {base n : Nat} {e : TypeId} {size : Nat} {v : Value} {xs : List Value} (h : w.ownsRow base e size v n xs) : v.oneCell' = true := by
  rcases h.2 with ⟨rfl, _⟩ | ⟨g, cap, cur, rfl, _⟩
  · rfl
  · rfl
theorem one_three {a : Int} {dv : Value} {gn : Bool} (h : dv.oneCell' = true) {u : Value} (hu : u ∈ [.int .i64 a, dv, .bool gn]) : u.oneCell' = true := by
  simp at hu
  rcases hu with rfl | rfl | rfl
  · rfl
  · exact h
  · rfl
theorem heap_mapped {w w' : World} {b k : Nat} {cs : Array Value} {t : TypeId} {fr : Nat × Nat} {es : Array MapEntry} {ck : Nat} (hm : w.heap[b]? = some (.map es ck)) (hg : w.grownBy w' (some b)) (h : w.heap[k]? = some (.cells cs t fr)) : w'.heap[k]? = some (.cells cs t fr) :=
  (hg.block k (lt_of_block h) (fun e => by rw [Option.some.inj e, hm] at h; cases h)).trans h
theorem own_slice {w : World} {base n : Nat} {e : TypeId} {size : Nat} {v : Value} {xs : List Value} (h : w.ownsRow base e size v n xs) : ∃ A c, v = .slice A n c := by
  rcases h.2 with ⟨rfl, rfl⟩ | ⟨g, cap, cur, rfl, _⟩
  · exact ⟨none, 0, rfl⟩
  · exact ⟨_, _, rfl⟩
end Go.Proofs.YtkplkienbgoofaaDoor
