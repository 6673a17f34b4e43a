/-
  Rows of the call's own that are read from an element on: what a slice expression leaves of them; appends to such.
-/
import Derived.Test.YtlidenehfmlebaaGreatDoorOwnKit
import Derived.Maps.AppendAt
import Derived.Deep.RegionLaw
set_option linter.unusedVariables false
set_option linter.unusedSimpArgs false
namespace Go.Proofs.YtlidenehfmlebaaGreatDoor
open Go.RowKit Go.Maps Go.WideMaps
/-- A slice of a row of the call's own, from an element on. -/
def OffRow (w : World) (base : Nat) (e : TypeId) (size : Nat) (v : Value) (n : Nat) (xs : List Value) : Prop :=
  xs.length = n * size ∧
  ((v = .slice none 0 0 ∧ n = 0) ∨
   ∃ g off cap cur, v = .slice (some ⟨g, off * size, none⟩) n cap ∧ base ≤ g ∧ w.heap[g]? = some (.cells cur e (0, 0)) ∧ n ≤ cap ∧ cap ≤ maxLen ∧ (off + cap) * size ≤ cur.size ∧ (cur.toList.drop (off * size)).take (n * size) = xs)
theorem OffRow.of {w : World} {base : Nat} {e : TypeId} {size : Nat} {v : Value} {n : Nat} {xs : List Value} (h : w.ownsRow base e size v n xs) : OffRow w base e size v n xs := by
  obtain ⟨h1, h2⟩ := h
  refine ⟨h1, ?_⟩
  rcases h2 with h2 | ⟨g, cap, cur, rfl, r1, r2, r3, r4, r5, r6⟩
  · exact .inl h2
  · exact .inr ⟨g, 0, cap, cur, by simp, r1, r2, r3, r4, by simpa using Nat.le_of_eq r5.symm, by simpa using r6⟩
theorem OffRow.lt {w : World} {base : Nat} {e : TypeId} {size : Nat} {v : Value} {n : Nat} {xs : List Value} (h : OffRow w base e size v n xs) : ∀ k, v.ownBlock = some k → base ≤ k ∧ k < w.heap.size := by
  intro k hk
  rcases h.2 with ⟨rfl, _⟩ | ⟨g, off, cap, cur, rfl, hb, hg, _⟩
  · simp [Value.ownBlock] at hk
  · simp [Value.ownBlock] at hk
    subst hk
    exact ⟨hb, lt_of_block hg⟩
/-- The block of a row. -/
theorem OffRow.blk {w : World} {base : Nat} {e : TypeId} {size : Nat} {v : Value} {n : Nat} {xs : List Value} (h : OffRow w base e size v n xs) : ∀ k, v.ownBlock = some k → ∃ cur, w.heap[k]? = some (.cells cur e (0, 0)) := by
  intro k hk
  rcases h.2 with ⟨rfl, _⟩ | ⟨g, off, cap, cur, rfl, hb, hg, _⟩
  · simp [Value.ownBlock] at hk
  · simp [Value.ownBlock] at hk
    subst hk
    exact ⟨cur, hg⟩
theorem OffRow.kept {w w' : World} {base : Nat} {e : TypeId} {size : Nat} {v : Value} {n : Nat} {xs : List Value} {row : Option Nat} (h : OffRow w base e size v n xs) (hg : w.grownBy w' row) (hne : v.ownBlock = none ∨ v.ownBlock ≠ row) : OffRow w' base e size v n xs := by
  refine ⟨h.1, ?_⟩
  rcases h.2 with hn | ⟨g, off, cap, cur, rfl, hb, hgg, rest⟩
  · exact .inl hn
  · refine .inr ⟨g, off, cap, cur, rfl, hb, ?_, rest⟩
    rw [hg.block g (lt_of_block hgg) (by simpa [Value.ownBlock] using hne)]
    exact hgg
theorem OffRow.stay {w w1 : World} {base : Nat} {e : TypeId} {size n : Nat} {v : Value} {xs : List Value} (h : OffRow w base e size v n xs) (hb : Below w.heap.size w w1) : OffRow w1 base e size v n xs :=
  h.kept (row := none) ⟨hb.os, hb.tape, hb.output, hb.size, fun i hi _ => hb.block i hi⟩ (by cases v.ownBlock <;> simp)
theorem OffRow.mono {w : World} {base base' : Nat} {e : TypeId} {size n : Nat} {v : Value} {xs : List Value} (h : OffRow w base e size v n xs) (hb : base' ≤ base) : OffRow w base' e size v n xs := by
  refine ⟨h.1, ?_⟩
  rcases h.2 with hn | ⟨g, off, cap, cur, rfl, hbb, r⟩
  · exact .inl hn
  · exact .inr ⟨g, off, cap, cur, rfl, by omega, r⟩
/-- What a row looks like, and its cells. -/
theorem OffRow.form {w : World} {base : Nat} {e : TypeId} {size : Nat} {v : Value} {n : Nat} {xs : List Value} (h : OffRow w base e size v n xs) (hn : 0 < n) :
    ∃ g o cap, v = .slice (some ⟨g, o, none⟩) n cap ∧ n ≤ cap ∧ cap ≤ maxLen ∧ base ≤ g ∧ ∀ j, j < n * size → w.cell? ⟨g, o + j, none⟩ = xs[j]? := by
  rcases h.2 with ⟨_, h0⟩ | ⟨g, off, cap, cur, rfl, hb, hg, h1, h2, h3, h4⟩
  · omega
  · refine ⟨g, off * size, cap, rfl, h1, h2, hb, fun j hj => ?_⟩
    rw [← h4, List.getElem?_take, if_pos hj, List.getElem?_drop, cell_of_row w g _ cur e (0, 0) hg]
    simp
theorem OffRow.slice {w : World} {base : Nat} {e : TypeId} {size : Nat} {v : Value} {n : Nat} {xs : List Value} (h : OffRow w base e size v n xs) : ∃ A c, v = .slice A n c ∧ n ≤ c ∧ c ≤ maxLen := by
  rcases h.2 with ⟨rfl, rfl⟩ | ⟨g, off, cap, cur, rfl, hb, hg, h1, h2, _⟩
  · exact ⟨_, _, rfl, by omega, by simp⟩
  · exact ⟨_, _, rfl, h1, h2⟩
/-- A row that a map's block is not. -/
theorem OffRow.ne {w : World} {base n size b : Nat} {e : TypeId} {v : Value} {xs : List Value} {es : Array MapEntry} {clock : Nat} (h : OffRow w base e size v n xs) (hb : w.heap[b]? = some (.map es clock)) : some b ≠ v.ownBlock := by
  intro e2
  obtain ⟨cur, hc⟩ := h.blk b e2.symm
  rw [hb] at hc
  cases hc
theorem OffRow.mapped {w w' : World} {base n size b : Nat} {e : TypeId} {v : Value} {xs : List Value} {es : Array MapEntry} {clock : Nat} (h : OffRow w base e size v n xs) (hb : w.heap[b]? = some (.map es clock)) (hg : w.grownBy w' (some b)) : OffRow w' base e size v n xs :=
  h.kept hg (.inr (h.ne hb).symm)
/-- A block of another type stays while a row grows. -/
theorem OffRow.block {w w' : World} {base n size b : Nat} {e t : TypeId} {v : Value} {xs : List Value} {cs : Array Value} (ho : OffRow w base e size v n xs) (h : w.heap[b]? = some (.cells cs t (0, 0))) (hne : t ≠ e) (hg : w.grownBy w' v.ownBlock) : w'.heap[b]? = some (.cells cs t (0, 0)) := by
  refine (hg.block b (lt_of_block h) (fun e2 => ?_)).trans h
  obtain ⟨cur, hc⟩ := ho.blk b e2.symm
  rw [h] at hc
  injection hc with hc
  injection hc with _ h2
  exact hne h2
theorem OffRow.other {w w' : World} {base base' n n' size size' : Nat} {e t : TypeId} {v u : Value} {xs ys : List Value} (ho : OffRow w base' e size' v n' ys) (h : w.ownsRow base t size u n xs) (hne : t ≠ e) (hg : w.grownBy w' v.ownBlock) : w'.ownsRow base t size u n xs := by
  obtain ⟨h1, h2⟩ := h
  refine ⟨h1, ?_⟩
  rcases h2 with h2 | ⟨k, cap, cur, rfl, hbb, hh, r⟩
  · exact .inl h2
  · exact .inr ⟨k, cap, cur, rfl, hbb, ho.block hh hne hg, r⟩
/-- What a slice expression leaves: all but the first element. -/
theorem OffRow.tail {w : World} {base : Nat} {e : TypeId} {size : Nat} {g o n cap : Nat} {x xs : List Value} (h : OffRow w base e size (.slice (some ⟨g, o, none⟩) (n + 1) cap) (n + 1) (x ++ xs)) (hx : x.length = size) :
    (cap = 1 → OffRow w base e size (.slice (some ⟨g, o, none⟩) n (cap - 1)) n xs) ∧ (cap ≠ 1 → OffRow w base e size (.slice (some ⟨g, o + size, none⟩) n (cap - 1)) n xs) := by
  obtain ⟨h1, h2⟩ := h
  have hl : xs.length = n * size := by
    rw [List.length_append, hx, Nat.succ_mul] at h1
    omega
  rcases h2 with ⟨e1, _⟩ | ⟨g', off, cap', cur, e1, hb, hg, r1, r2, r3, r4⟩
  · cases e1
  · injection e1 with e1 _ e2
    injection e1 with e1
    injection e1 with e1 e3
    subst e1 e2 e3
    refine ⟨fun hc => ?_, fun hc => ?_⟩
    · subst hc
      obtain rfl : n = 0 := by omega
      have hxs : xs = [] := List.length_eq_zero_iff.1 (by simpa using hl)
      exact ⟨hl, .inr ⟨g, off, 0, cur, rfl, hb, hg, Nat.le_refl _, by simp, Nat.le_trans (Nat.mul_le_mul_right _ (by omega)) r3, by simp [hxs]⟩⟩
    · refine ⟨hl, .inr ⟨g, off + 1, cap - 1, cur, by rw [Nat.succ_mul], hb, hg, by omega, by omega, ?_, ?_⟩⟩
      · have : off + 1 + (cap - 1) = off + cap := by omega
        rw [this]; exact r3
      · have e4 : cur.toList.drop ((off + 1) * size) = (cur.toList.drop (off * size)).drop size := by rw [List.drop_drop, Nat.succ_mul]
        rw [e4]
        have e5 : (cur.toList.drop (off * size)).take ((n + 1) * size) = ((cur.toList.drop (off * size)).take size) ++ ((cur.toList.drop (off * size)).drop size).take (n * size) := by
          rw [Nat.succ_mul, Nat.add_comm, List.take_add]
        rw [e5] at r4
        have e6 : ((cur.toList.drop (off * size)).take size).length = x.length := by
          rw [hx]
          have := congrArg List.length r4
          simp only [List.length_append, List.length_take, List.length_drop, hl, hx, Array.length_toList] at this ⊢
          omega
        exact (List.append_inj r4 e6).2
section
variable {P : Program} (w : World)
theorem run_append_room_off (t ty e : TypeId) (i : TypeInfo) (ht : P.underlying t = some (.slice e)) (hi : P.info? e = some i)
    (g o sLen sCap : Nat) (cur : Array Value) (hg : w.heap[g]? = some (.cells cur e (0, 0)))
    (a : Addr) (m c : Nat) (news : List Value) (hl : news.length = m * i.size) (hnews : ∀ j u, news[j]? = some u → w.cell? (a.add j) = some u) (h1 : ∀ u ∈ news, u.oneCell' = true)
    (hroom : sLen + m ≤ sCap) (hfit : o + sLen * i.size + news.length ≤ cur.size) :
    (Builtin.append_ #[t, t] ty #[.slice (some ⟨g, o, none⟩) sLen sCap, .slice (some a) m c]).run P w =
      .ok (.slice (some ⟨g, o, none⟩) (sLen + m) sCap) (w.setRow g (cur.toList.take (o + sLen * i.size) ++ news ++ cur.toList.drop (o + sLen * i.size + news.length)).toArray) := by
  have hf := run_firstCells_some (P := P) w i.size m a m c news hl hnews
  have hst := run_storeCells_at P g (o + sLen * i.size) e news 0 cur w hg (by simpa using hfit) h1
  simp only [Nat.add_zero] at hst
  simp [Builtin.append_, run_underlying ht, sizeOf, typeInfo, hi, Builtin.lenOf, hroom, hf, Addr.add_lit, hst]
theorem run_append_off (base : Nat) (t ty e : TypeId) (i : TypeInfo) (z : Value) (size bytes : Nat) (ht : P.underlying t = some (.slice e)) (hi : P.info? e = some i) (hz : i.zero = some z)
    (hsize : i.size = size) (hby : i.bytes = bytes) (hzs : z.cells.size = size) (hsz : 0 < size)
    (v : Value) (n : Nat) (xs : List Value) (hown : OffRow w base e size v n xs)
    (a : Addr) (m c : Nat) (news : List Value) (hl : news.length = m * size) (hnews : ∀ j u, news[j]? = some u → w.cell? (a.add j) = some u) (h1 : ∀ u ∈ news, u.oneCell' = true)
    (h63 : n + m ≤ maxLen) (hbytes : (n + m) * bytes ≤ 140737488355328) (hbase : base ≤ w.heap.size) :
    ∃ v' w', (Builtin.append_ #[t, t] ty #[v, .slice (some a) m c]).run P w = .ok v' w' ∧ OffRow w' base e size v' (n + m) (xs ++ news) ∧ w.grownBy w' v.ownBlock ∧ (v'.ownBlock = v.ownBlock ∨ v'.ownBlock = some w.heap.size) := by
  rcases hown.2 with ⟨rfl, rfl⟩ | ⟨g, off, cap, cur, rfl, hbg, hg, hnc, hcm, hcs, htake⟩
  · have ho : w.ownsRow base e size (.slice none 0 0) 0 xs := ⟨hown.1, .inl ⟨rfl, rfl⟩⟩
    obtain ⟨v', w', hr, h2, h3, _, h5⟩ := run_append_own_at (P := P) w base t ty e i z size bytes ht hi hz hsize hby hzs hsz _ 0 xs ho a m c news hl hnews h1 h63 hbytes hbase
    exact ⟨v', w', hr, OffRow.of h2, h3, h5⟩
  · subst hsize
    subst hby
    have hlen : (xs ++ news).length = (n + m) * i.size := by rw [List.length_append, hown.1, hl, Nat.add_mul]
    by_cases hroom : n + m ≤ cap
    · have hfit : off * i.size + n * i.size + news.length ≤ cur.size := by
        rw [hl, ← Nat.add_mul, ← Nat.add_mul]
        exact Nat.le_trans (Nat.mul_le_mul_right _ (by omega)) hcs
      have hr := run_append_room_off (P := P) w t ty e i ht hi g (off * i.size) n cap cur hg a m c news hl hnews h1 hroom hfit
      refine ⟨_, _, hr, ⟨hlen, .inr ⟨g, off, cap, _, rfl, hbg, setRow_heap w g cur _ e _ hg, hroom, hcm, ?_, ?_⟩⟩, ⟨rfl, rfl, rfl, by simp, fun k _ hk => setRow_other w g k _ (fun e => hk (by simp [Value.ownBlock, e]))⟩, Or.inl rfl⟩
      · simp only [List.size_toArray, List.length_append, List.length_take, List.length_drop, Array.length_toList]
        omega
      · have hle : off * i.size ≤ cur.size := by
          have := Nat.mul_le_mul_right i.size (show off ≤ off + cap by omega)
          omega
        have hl2 : (cur.toList.take (off * i.size)).length = off * i.size := by simp; omega
        have e1 : cur.toList.take (off * i.size + n * i.size) = cur.toList.take (off * i.size) ++ xs := by rw [List.take_add, htake]
        rw [e1, List.append_assoc, List.append_assoc, List.drop_left' hl2, ← List.append_assoc, ← hlen]
        exact List.take_left
    · have holds : ∀ j u, xs[j]? = some u → w.cell? ((⟨g, off * i.size, none⟩ : Addr).add j) = some u := fun j u hj => by
        have hj' : j < n * i.size := by
          have := (List.getElem?_eq_some_iff.1 hj).1
          rw [hown.1] at this
          exact this
        rw [Addr.add_lit, cell_of_row w g _ cur e (0, 0) hg]
        rw [← htake, List.getElem?_take, if_pos hj', List.getElem?_drop] at hj
        simpa using hj
      have hr := run_append_grow (P := P) w t ty e i z ht hi hz ⟨g, off * i.size, none⟩ n cap xs hown.1 holds a m c news hl hnews (by omega) (by simp only [maxLen] at h63; omega) (growslice_fits (by omega) hbytes)
      have hge := grownCap_ge w (n + m) cap e
      have hcm2 : grownCap w (n + m) cap e ≤ maxLen := grownCap_le_maxLen w (n + m) cap e h63
      refine ⟨_, _, hr, OffRow.of ⟨hlen, .inr ⟨w.heap.size, _, _, rfl, hbase, heap_alloc_new w.drew _, hge, hcm2, ?_, ?_⟩⟩, ⟨rfl, rfl, rfl, by simp, fun k hk _ => heap_alloc_old w.drew _ hk⟩, Or.inr rfl⟩
      · simp only [Array.size_append, List.size_toArray, size_zeroCells, hzs, hown.1, hl, ← Nat.add_mul]
        congr 1
        omega
      · simp only [Array.toList_append, List.append_assoc]
        rw [← List.append_assoc, ← hlen]
        exact List.take_left
/-- At a step of a region that draws its order. -/
theorem step_append_off {ops : Array Oper} {o : Oper} {a : Act} {K : Act → World → Prop} {Q : Exit → Act → World → Prop} {E : Prop} (hgd : o.guard = none) (s x : Operand) (t : TypeId)
    (ho : o.op = .call { callee := .builtin .append, args := #[s, x], argTypes := #[t, t] })
    (base : Nat) (e : TypeId) (i : TypeInfo) (z : Value) (size bytes : Nat) (ht : P.underlying t = some (.slice e)) (hi : P.info? e = some i) (hz : i.zero = some z)
    (hsize : i.size = size) (hby : i.bytes = bytes) (hzs : z.cells.size = size) (hsz : 0 < size)
    (v : Value) (n : Nat) (xs : List Value) (hs : a.eval s = v) (hown : OffRow w base e size v n xs)
    (ad : Addr) (m c : Nat) (news : List Value) (hx : a.eval x = .slice (some ad) m c) (hl : news.length = m * size) (hnews : ∀ j u, news[j]? = some u → w.cell? (ad.add j) = some u) (h1 : ∀ u ∈ news, u.oneCell' = true)
    (h63 : n + m ≤ maxLen) (hbytes : (n + m) * bytes ≤ 140737488355328) (hbase : base ≤ w.heap.size)
    (h : ∀ v' w', OffRow w' base e size v' (n + m) (xs ++ news) → w.grownBy w' v.ownBlock → (v'.ownBlock = v.ownBlock ∨ v'.ownBlock = some w.heap.size) → K (a.put o.dst v') w') :
    if Region.wanted o (yielded ops a.tmps) = true then Oper.wp P o a w K Q else E := by
  have hw : Region.wanted o (yielded ops a.tmps) = true := by simp [Region.wanted, hgd]
  rw [if_pos hw]
  obtain ⟨v', w', hr, h2, h3, h5⟩ := run_append_off (P := P) w base t o.type e i z size bytes ht hi hz hsize hby hzs hsz v n xs hown ad m c news hl hnews h1 h63 hbytes hbase
  unfold Oper.wp execOp
  simp only [ho, resolve, invoke, builtin, Sem.run_bind, Sem.run_pure, Result.andThen_ok, List.map_toArray, List.map_cons, List.map_nil, hs, hx, hr]
  exact h v' w' h2 h3 h5
end
end Go.Proofs.YtlidenehfmlebaaGreatDoor
