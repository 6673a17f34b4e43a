/-
  What a row's elder cells hold behind an append.
-/
import Derived.Test.YtkplkienbgoofaaDoorOffRow
set_option linter.unusedVariables false
set_option linter.unusedSimpArgs false
namespace Go.Proofs.YtkplkienbgoofaaDoor
open Go.RowKit Go.Maps Go.WideMaps Go.WideAt
section
variable {P : Program} (w : World)
theorem run_append_keeps (base : Nat) (t ty e : TypeId) (i : TypeInfo) (z : Value) (size bytes : Nat) (ht : P.underlying t = some (.slice e)) (hi : P.info? e = some i) (hz : i.zero = some z)
    (hsize : i.size = size) (hby : i.bytes = bytes) (hzs : z.cells.size = size) (hsz : 0 < size)
    (v : Value) (n : Nat) (xs : List Value) (hown : OffRow w base e size v n xs)
    (a : Addr) (m c : Nat) (news : List Value) (hl : news.length = m * size) (hnews : ∀ j u, news[j]? = some u → w.cell? (a.add j) = some u) (h1 : ∀ u ∈ news, u.oneCell' = true)
    (h63 : n + m ≤ maxLen) (hbytes : (n + m) * bytes ≤ 140737488355328) (hbase : base ≤ w.heap.size) :
    ∃ v' w', (Builtin.append_ #[t, t] ty #[v, .slice (some a) m c]).run P w = .ok v' w' ∧ OffRow w' base e size v' (n + m) (xs ++ news) ∧ w.grownBy w' v.ownBlock ∧ (v'.ownBlock = v.ownBlock ∨ v'.ownBlock = some w.heap.size) ∧ ∀ g off cap, v = .slice (some ⟨g, off, none⟩) n cap → ∀ j u, xs[j]? = some u → w'.cell? ⟨g, off + j, none⟩ = some u := by
  rcases hown.2 with ⟨rfl, rfl⟩ | ⟨g, off, cap, cur, rfl, hbg, hg, hnc, hcm, hcs, htake⟩
  · have ho : w.ownsRow base e size (.slice none 0 0) 0 xs := ⟨hown.1, .inl ⟨rfl, rfl⟩⟩
    obtain ⟨v', w', hr, h2, h3, _, h5⟩ := run_append_own_at (P := P) w base t ty e i z size bytes ht hi hz hsize hby hzs hsz _ 0 xs ho a m c news hl hnews h1 h63 hbytes hbase
    exact ⟨v', w', hr, OffRow.of h2, h3, h5, fun g off cap e => by cases e⟩
  · subst hsize
    subst hby
    have hlen : (xs ++ news).length = (n + m) * i.size := by rw [List.length_append, hown.1, hl, Nat.add_mul]
    by_cases hroom : n + m ≤ cap
    · have hfit : off * i.size + n * i.size + news.length ≤ cur.size := by
        rw [hl, ← Nat.add_mul, ← Nat.add_mul]
        exact Nat.le_trans (Nat.mul_le_mul_right _ (by omega)) hcs
      have hr := run_append_room_off (P := P) w t ty e i ht hi g (off * i.size) n cap cur hg a m c news hl hnews h1 hroom hfit
      refine ⟨_, _, hr, ⟨hlen, .inr ⟨g, off, cap, _, rfl, hbg, setRow_heap w g cur _ e _ hg, hroom, hcm, ?_, ?_⟩⟩, ⟨rfl, rfl, rfl, by simp, fun k _ hk => setRow_other w g k _ (fun e => hk (by simp [Value.ownBlock, e]))⟩, Or.inl rfl, ?_⟩
      · simp only [List.size_toArray, List.length_append, List.length_take, List.length_drop, Array.length_toList]
        omega
      · have hle : off * i.size ≤ cur.size := by
          have := Nat.mul_le_mul_right i.size (show off ≤ off + cap by omega)
          omega
        have hl2 : (cur.toList.take (off * i.size)).length = off * i.size := by simp; omega
        have e1 : cur.toList.take (off * i.size + n * i.size) = cur.toList.take (off * i.size) ++ xs := by rw [List.take_add, htake]
        rw [e1, List.append_assoc, List.append_assoc, List.drop_left' hl2, ← List.append_assoc, ← hlen]
        exact List.take_left
      · intro g2 o2 c2 e2 j u hj
        injection e2 with e2 _ _
        injection e2 with e2
        injection e2 with e2 e3 _
        subst e2
        subst e3
        have hj' : j < n * i.size := by
          have := (List.getElem?_eq_some_iff.1 hj).1
          rw [hown.1] at this
          exact this
        rw [cell_of_row _ g _ _ e (0, 0) (setRow_heap w g cur _ e _ hg)]
        simp only [List.getElem?_toArray]
        rw [List.getElem?_append_left (by simp; omega), List.getElem?_append_left (by simp; omega), List.getElem?_take, if_pos (by omega)]
        rw [← htake, List.getElem?_take, if_pos hj', List.getElem?_drop] at hj
        exact hj
    · have holds : ∀ j u, xs[j]? = some u → w.cell? ((⟨g, off * i.size, none⟩ : Addr).add j) = some u := fun j u hj => by
        have hj' : j < n * i.size := by
          have := (List.getElem?_eq_some_iff.1 hj).1
          rw [hown.1] at this
          exact this
        rw [Addr.add_lit, cell_of_row w g _ cur e (0, 0) hg]
        rw [← htake, List.getElem?_take, if_pos hj', List.getElem?_drop] at hj
        simpa using hj
      have hr := run_append_grow (P := P) w t ty e i z ht hi hz ⟨g, off * i.size, none⟩ n cap xs hown.1 holds a m c news hl hnews (by omega) (by simp only [maxLen] at h63; omega) (growslice_fits (by omega) hbytes)
      have hge := grownCap_ge w (n + m) cap e
      have hcm2 : grownCap w (n + m) cap e ≤ maxLen := grownCap_le_maxLen w (n + m) cap e h63
      refine ⟨_, _, hr, OffRow.of ⟨hlen, .inr ⟨w.heap.size, _, _, rfl, hbase, heap_alloc_new w.drew _, hge, hcm2, ?_, ?_⟩⟩, ⟨rfl, rfl, rfl, by simp, fun k hk _ => heap_alloc_old w.drew _ hk⟩, Or.inr rfl, ?_⟩
      · simp only [Array.size_append, List.size_toArray, size_zeroCells, hzs, hown.1, hl, ← Nat.add_mul]
        congr 1
        omega
      · simp only [Array.toList_append, List.append_assoc]
        rw [← List.append_assoc, ← hlen]
        exact List.take_left
      · intro g2 o2 c2 e2 j u hj
        injection e2 with e2 _ _
        injection e2 with e2
        injection e2 with e2 e3 _
        subst e2
        subst e3
        have h1 := holds j u hj
        rw [Addr.add_lit] at h1
        exact (World.cell?_of_block (a := ⟨g, off * i.size + j, none⟩) (heap_alloc_old w.drew _ (lt_of_block hg))).trans h1
theorem step_append_keeps {ops : Array Oper} {o : Oper} {a : Act} {K : Act → World → Prop} {Q : Exit → Act → World → Prop} {E : Prop} (hgd : o.guard = none) (s x : Operand) (t : TypeId)
    (ho : o.op = .call { callee := .builtin .append, args := #[s, x], argTypes := #[t, t] })
    (base : Nat) (e : TypeId) (i : TypeInfo) (z : Value) (size bytes : Nat) (ht : P.underlying t = some (.slice e)) (hi : P.info? e = some i) (hz : i.zero = some z)
    (hsize : i.size = size) (hby : i.bytes = bytes) (hzs : z.cells.size = size) (hsz : 0 < size)
    (v : Value) (n : Nat) (xs : List Value) (hs : a.eval s = v) (hown : OffRow w base e size v n xs)
    (ad : Addr) (m c : Nat) (news : List Value) (hx : a.eval x = .slice (some ad) m c) (hl : news.length = m * size) (hnews : ∀ j u, news[j]? = some u → w.cell? (ad.add j) = some u) (h1 : ∀ u ∈ news, u.oneCell' = true)
    (h63 : n + m ≤ maxLen) (hbytes : (n + m) * bytes ≤ 140737488355328) (hbase : base ≤ w.heap.size)
    (h : ∀ v' w', OffRow w' base e size v' (n + m) (xs ++ news) → w.grownBy w' v.ownBlock → (v'.ownBlock = v.ownBlock ∨ v'.ownBlock = some w.heap.size) → (∀ g off cap, v = .slice (some ⟨g, off, none⟩) n cap → ∀ j u, xs[j]? = some u → w'.cell? ⟨g, off + j, none⟩ = some u) → K (a.put o.dst v') w') :
    if Region.wanted o (yielded ops a.tmps) = true then Oper.wp P o a w K Q else E := by
  have hw : Region.wanted o (yielded ops a.tmps) = true := by simp [Region.wanted, hgd]
  rw [if_pos hw]
  obtain ⟨v', w', hr, h2, h3, h5, h6⟩ := run_append_keeps (P := P) w base t o.type e i z size bytes ht hi hz hsize hby hzs hsz v n xs hown ad m c news hl hnews h1 h63 hbytes hbase
  unfold Oper.wp execOp
  simp only [ho, resolve, invoke, builtin, Sem.run_bind, Sem.run_pure, Result.andThen_ok, List.map_toArray, List.map_cons, List.map_nil, hs, hx, hr]
  exact h v' w' h2 h3 h5 h6
end
end Go.Proofs.YtkplkienbgoofaaDoor
