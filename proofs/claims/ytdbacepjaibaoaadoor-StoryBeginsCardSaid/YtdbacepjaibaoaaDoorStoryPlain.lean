/-
  Replay of a beginning, and of one event more: plain laws; a copy of a row of events.
-/
import Derived.Test.YtdbacepjaibaoaaDoorStoryEv
set_option linter.unusedVariables false
set_option linter.unusedSimpArgs false
namespace Go.Proofs.YtdbacepjaibaoaaDoor
open Go.RowKit Go.Maps Go.WideMaps Go.WideAt
theorem replay_app : ∀ (l t : List EvD) (Ms : List FM) (i : Nat), replayM Ms i (l ++ t) = (match replayM Ms i l with
    | .ok R => replayM R (i + l.length) t
    | .error k => .error k)
  | [], t, Ms, i => rfl
  | e :: l, t, Ms, i => by
    rw [List.cons_append, replayM, replayM]
    split
    · rw [replay_app l t]
      simp only [List.length_cons, Nat.add_assoc, Nat.add_comm 1]
    · split
      · rw [replay_app l t]
        simp only [List.length_cons, Nat.add_assoc, Nat.add_comm 1]
      · rfl
theorem replay_ext : ∀ (l : List EvD) (Ms : List FM) (i : Nat) {R : List FM}, replayM Ms i l = .ok R → ∃ r, R = Ms ++ r
  | [], Ms, i, R, h => ⟨[], by rw [replayM] at h; injection h with h; simp [h]⟩
  | e :: l, Ms, i, R, h => by
    rw [replayM] at h
    split at h
    · obtain ⟨r, hr⟩ := replay_ext l _ _ h
      exact ⟨_, by rw [hr, List.append_assoc]⟩
    · split at h
      · exact replay_ext l _ _ h
      · cases h
theorem replay_take {l : List EvD} {Ms R : List FM} {i : Nat} (h : replayM Ms i l = .ok R) (n : Nat) : ∃ R1 r, replayM Ms i (l.take n) = .ok R1 ∧ R = R1 ++ r := by
  have e := replay_app (l.take n) (l.drop n) Ms i
  rw [List.take_append_drop, h] at e
  cases h1 : replayM Ms i (l.take n) with
  | error k => rw [h1] at e; cases e
  | ok R1 =>
    rw [h1] at e
    obtain ⟨r, hr⟩ := replay_ext _ _ _ e.symm
    exact ⟨R1, r, rfl, hr⟩
theorem replay_len : ∀ (l : List EvD) (Ms : List FM) (i B : Nat) {R : List FM}, (∀ e ∈ l, EvGood e) → (∀ M ∈ Ms, M.length ≤ B) → replayM Ms i l = .ok R → ∀ M ∈ R, M.length ≤ B + 1000 * l.length
  | [], Ms, i, B, R, hg, hM, h => by
    rw [replayM] at h
    injection h with h
    subst h
    simpa using hM
  | e :: l, Ms, i, B, R, hg, hM, h => by
    rw [replayM] at h
    split at h
    · intro M hM2
      have := replay_len l _ _ (B + 1000) (fun e he => hg e (List.mem_cons_of_mem _ he)) (fun M hM1 => by
        rcases List.mem_append.1 hM1 with hM1 | hM1
        · have := hM M hM1; omega
        · rw [List.mem_singleton.1 hM1]
          have h1 := applyM_len (Ms.getLastD []) e.2.2.2.2.2
          have h2 := (hg e List.mem_cons_self).2.2.1
          have h3 : (Ms.getLastD []).length ≤ B := by
            rw [List.getLastD_eq_getLast?]
            cases hl : Ms.getLast? with
            | none => simp
            | some x => exact hM x (List.mem_of_getLast? hl)
          omega) h M hM2
      rw [List.length_cons]
      omega
    · split at h
      · intro M hM2
        have := replay_len l _ _ B (fun e he => hg e (List.mem_cons_of_mem _ he)) hM h M hM2
        rw [List.length_cons]
        omega
      · cases h
theorem replay_all (P : FM → Prop) : ∀ (l : List EvD) (Ms : List FM) (i : Nat) {R : List FM}, (∀ e ∈ l, ∀ M, P M → P (applyM M e.2.2.2.2.2)) → P [] → (∀ M ∈ Ms, P M) → replayM Ms i l = .ok R → ∀ M ∈ R, P M
  | [], Ms, i, R, hg, h0, hM, h => by
    rw [replayM] at h
    injection h with h
    subst h
    exact hM
  | e :: l, Ms, i, R, hg, h0, hM, h => by
    rw [replayM] at h
    have hg2 : ∀ e ∈ l, ∀ M, P M → P (applyM M e.2.2.2.2.2) := fun e he => hg e (List.mem_cons_of_mem _ he)
    split at h
    · exact replay_all P l _ _ hg2 h0 (fun M hM1 => by
        rcases List.mem_append.1 hM1 with hM1 | hM1
        · exact hM M hM1
        · rw [List.mem_singleton.1 hM1]
          refine hg e List.mem_cons_self _ ?_
          rw [List.getLastD_eq_getLast?]
          cases hl : Ms.getLast? with
          | none => exact h0
          | some x => exact hM x (List.mem_of_getLast? hl)) h
    · split at h
      · exact replay_all P l _ _ hg2 h0 hM h
      · cases h
theorem applyM_keys (Z : Nat) : ∀ (fs : List ChgD) (M : FM), (∀ x ∈ fs, x.1.size ≤ Z) → (∀ p ∈ M.map Prod.fst, p.size ≤ Z) → ∀ p ∈ (applyM M fs).map Prod.fst, p.size ≤ Z
  | [], M, hf, hM => hM
  | c :: t, M, hf, hM => by
    have hd : ∀ p ∈ (delM M c.1).map Prod.fst, p.size ≤ Z := fun p hp => by
      obtain ⟨x, hx, rfl⟩ := List.mem_map.1 hp
      exact hM _ (List.mem_map.2 ⟨x, (List.mem_filter.1 hx).1, rfl⟩)
    refine applyM_keys Z t (if c.2.2 then delM M c.1 else putM M c.1 (strOfNums c.2.1)) (fun x hx => hf x (List.mem_cons_of_mem _ hx)) ?_
    split
    · exact hd
    · intro p hp
      rw [putM, List.map_append, List.mem_append] at hp
      rcases hp with hp | hp
      · exact hd p hp
      · rw [List.map_cons, List.map_nil, List.mem_singleton] at hp
        rw [hp]
        exact hf c List.mem_cons_self
theorem replay_keys {l : List EvD} {R : List FM} (hg : ∀ e ∈ l, EvGood e) (h : replayM [[]] 0 l = .ok R) : ∀ M ∈ R, ∀ p ∈ M.map Prod.fst, p.size ≤ 1000 :=
  replay_all (fun M => ∀ p ∈ M.map Prod.fst, p.size ≤ 1000) l [[]] 0 (fun e he M hM => applyM_keys 1000 _ M (fun x hx => ((hg e he).2.2.2 x hx).1) hM) (fun p hp => by cases hp) (fun M hM => by rw [List.mem_singleton.1 hM]; exact fun p hp => by cases hp) h
theorem replay_count : ∀ (l : List EvD) (Ms : List FM) (i : Nat) {R : List FM}, replayM Ms i l = .ok R → R.length ≤ Ms.length + l.length
  | [], Ms, i, R, h => by
    rw [replayM] at h
    injection h with h
    rw [← h]
    simp
  | e :: l, Ms, i, R, h => by
    rw [replayM] at h
    split at h
    · have := replay_count l _ _ h
      rw [List.length_append, List.length_singleton] at this
      rw [List.length_cons]
      omega
    · split at h
      · have := replay_count l _ _ h
        rw [List.length_cons]
        omega
      · cases h
theorem replay_more {l : List EvD} {R : List FM} (h : replayM [[]] 0 l = .ok R) : replayM [[]] 0 (l ++ [(false, 0, ((R.length : Nat) : Int), ⟨#[]⟩, ⟨#[]⟩, [])]) = .error l.length := by
  rw [replay_app, h]
  simp [replayM]
theorem EvRow.take {w : World} {A : Option Addr} {l : List EvD} (h : EvRow w A l) (n : Nat) : EvRow w A (l.take n) := fun k hk => by
  have hk2 : k < l.length := by rw [List.length_take] at hk; omega
  have := h k hk2
  simp only [List.getElem_take]
  exact this
theorem wpList_append_clone_in {P : Program} {w3 : World} {ops : Array Oper} {rest : List Oper} {o : Oper} {a : Act} {Q : Exit → Act → World → Prop} (hgd : o.guard = none) (s x : Operand) (t : TypeId)
    (ho : o.op = .call { callee := .builtin .append, args := #[s, x], argTypes := #[t, t] })
    (e : TypeId) (i : TypeInfo) (z : Value) (size bytes : Nat) (ht : P.underlying t = some (.slice e)) (hi : P.info? e = some i) (hz : i.zero = some z)
    (hsize : i.size = size) (hby : i.bytes = bytes) (hzs : z.cells.size = size) (hsz : 0 < size)
    (A : Option Addr) (n c : Nat) (xs : List Value) (hs : a.eval s = .slice (some ⟨w3.heap.size, 0, none⟩) 0 0) (hx : a.eval x = .slice A n c) (hl : xs.length = n * size) (hc : ∀ ad, A = some ad → ∀ (j : Nat) u, xs[j]? = some u → w3.cell? (ad.add j) = some u) (hA : 0 < n → ∃ ad, A = some ad) (h1 : ∀ u ∈ xs, u.oneCell' = true)
    (h63 : n ≤ maxLen) (hbytes : n * bytes ≤ 140737488355328)
    (h : ∀ v' w', w'.ownsRow w3.heap.size e size v' n xs → Below w3.heap.size w3 w' → wpList P ops Q rest (a.put o.dst v') w') : wpList P ops Q (o :: rest) a (w3.alloc (.cells #[] e)) := by
  have hown0 : (w3.alloc (.cells #[] e)).ownsRow w3.heap.size e size (.slice (some ⟨w3.heap.size, 0, none⟩) 0 0) 0 [] := World.ownsRow_lit w3 #[] 0 (Nat.le_refl _) (by simp) (by simp)
  have hb1 := below_one w3 (.cells #[] e)
  by_cases hn : 0 < n
  · obtain ⟨ad, rfl⟩ := hA hn
    refine wpList_append_own _ hgd s x t ho w3.heap.size e i z size bytes ht hi hz hsize hby hzs hsz (.slice (some ⟨w3.heap.size, 0, none⟩) 0 0) 0 [] hs hown0 ad n c xs hx hl (fun j u hj => cell_below hb1 (hc ad rfl j u hj)) h1 (by omega) (by simpa using hbytes) hb1.size ?_
    intro v' w' ho' hg' _
    refine h v' w' (by simpa using ho') (hb1.grown hg' hb1.size (fun k hk => ?_))
    have : w3.heap.size = k := by simpa [Value.ownBlock] using hk
    omega
  · have h0 : n = 0 := by omega
    subst h0
    have hxs : xs = [] := List.length_eq_zero_iff.1 (by simpa using hl)
    subst hxs
    exact wpList_append_nothing hgd s x t ho e i ht hi (some ⟨w3.heap.size, 0, none⟩) 0 0 hs (Nat.le_refl _) A c hx (h _ _ hown0 hb1)
end Go.Proofs.YtdbacepjaibaoaaDoor
