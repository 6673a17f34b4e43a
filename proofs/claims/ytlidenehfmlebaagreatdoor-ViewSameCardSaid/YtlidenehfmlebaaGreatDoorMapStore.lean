/-
  A store at a key that is there, while the map is ranged over; how many entries a map has.
-/
import Derived.Test.YtlidenehfmlebaaGreatDoorMapRange
set_option linter.unusedVariables false
set_option linter.unusedSimpArgs false
namespace Go
open Go.ChangeMaps Go.MapKept Go.WideShapes
open Go.WideElems (Fit rd rg pl rd_key rd_val rd_mk rg_of other_key)
open Go.Maps (Keyed filter_one fit_keys fit_apart)
theorem filt_born {seen : Array Nat} : ∀ {l l' : List MapEntry}, l.map MapEntry.born = l'.map MapEntry.born → (l.filter fun e => !seen.contains e.born).length = (l'.filter fun e => !seen.contains e.born).length
  | [], [], _ => rfl
  | [], _ :: _, h => by cases h
  | _ :: _, [], h => by cases h
  | a :: r, a' :: r', h => by
    rw [List.map_cons, List.map_cons] at h
    injection h with h1 h2
    have ih := filt_born (seen := seen) h2
    rw [List.filter_cons, List.filter_cons, h1]
    split
    · rw [List.length_cons, List.length_cons, ih]
    · exact ih
theorem World.ranges.store {H : Type} {P : Program} {k t e : TypeId} {R : Value → Option (DataW H × List MemPlace)} {w : World} {b r n : Nat} {D : DataW H} {left : Lit → Bool} {cnt : Nat} (h : w.ranges P k R b r n D left cnt) (K : Keyed P k) (ht : P.underlying t = some (.map k e))
    {key val : Value} {kl : Lit} {yv : DataW H × List MemPlace} (hkey : keyOf P k key = some kl) (hv : R val = some yv) (hhas : Maps.has D kl = true) :
    ∃ w', (Instr.mapUpdate t (.map (some b)) key val).run P w = .ok () w' ∧ w'.ranges P k R b r n (D.put kl yv.1) left cnt ∧ w.grownBy w' (some b) := by
  have hne := h.ne
  obtain ⟨es, clock, since, seen, c0, hb, F, hs, rfl, hr, hold, rfl, hl1, hl2, hsc, hsk⟩ := h
  rcases K.find w hkey es.toList F.keys with ⟨h1, h2⟩ | ⟨j, e0, h1, h2, h3⟩
  · exfalso
    obtain ⟨p, hp, hpk⟩ := List.any_eq_true.1 hhas
    obtain ⟨x, hx, rfl⟩ := List.mem_map.1 (mem_sorted.1 hp)
    obtain ⟨y, hy⟩ := F.reads x hx
    have e1 := WideAt.sameKey_eq hpk
    rw [rg_of hy] at e1
    exact h2 x hx (K.inj (rd_key hy) (by rw [e1]; exact hkey))
  · have hj : es[j]? = some e0 := by simpa using h2
    have hjl : j < es.toList.length := (List.getElem?_eq_some_iff.1 h2).1
    have he0 : e0 ∈ es.toList := List.mem_of_getElem? h2
    have hkeyf : ∀ e', es[j]? = some e' → ({ e' with key := key, val := val } : MapEntry).key = e'.key := fun e' he' => by rw [hj] at he'; cases he'; exact h3.symm
    have hlist : (es.modify j (fun e' => { e' with key := key, val := val })).toList = es.toList.set j { e0 with key := key, val := val } := by rw [Array.toList_modify, modify_eq_set _ _ _ _ h2]
    have who : ∀ x ∈ es.toList.set j { e0 with key := key, val := val }, x = { e0 with key := key, val := val } ∨ (x ∈ es.toList ∧ x.key ≠ key) := by
      intro x hx
      obtain ⟨i, hi, ex⟩ := List.getElem_of_mem hx
      rw [List.getElem_set] at ex
      split at ex
      · exact Or.inl ex.symm
      · rename_i hne
        have hi' : i < es.toList.length := by simpa using hi
        refine Or.inr ⟨ex ▸ List.getElem_mem hi', ?_⟩
        rw [← h3]
        exact other_key F h2 (by rw [List.getElem?_eq_getElem hi', ex]) (fun e1 => hne e1.symm)
    have back : ∀ x ∈ es.toList, x.key ≠ key → x ∈ es.toList.set j { e0 with key := key, val := val } := fun x hx hxk => by
      obtain ⟨i, hi, ex⟩ := List.getElem_of_mem hx
      have hij : j ≠ i := fun e1 => hxk (by
        subst e1
        rw [List.getElem?_eq_getElem hi] at h2
        injection h2 with h2
        rw [← ex, h2]
        exact h3)
      exact List.mem_iff_getElem.2 ⟨i, by simpa using hi, by rw [List.getElem_set_ne hij]; exact ex⟩
    have hnew : ({ e0 with key := key, val := val } : MapEntry) ∈ es.toList.set j { e0 with key := key, val := val } := List.mem_iff_getElem.2 ⟨j, by simpa using hjl, by simp⟩
    have hrg0 : (rg P k R e0).1 = kl := by
      obtain ⟨y, hy⟩ := F.reads e0 he0
      have m1 := rd_key hy
      rw [h3, hkey] at m1
      rw [rg_of hy]
      exact (Option.some.inj m1).symm
    have hrgn : rg P k R { e0 with key := key, val := val } = (kl, yv.1) := rg_of (rd_mk hkey hv)
    have hborn : (es.toList.set j { e0 with key := key, val := val }).map MapEntry.born = es.toList.map MapEntry.born := by
      rw [List.map_set]
      have e2 : (es.toList.map MapEntry.born)[j]? = some e0.born := by rw [List.getElem?_map, h2]; rfl
      refine List.ext_getElem? (fun i => ?_)
      rw [List.getElem?_set]
      split
      · rename_i e3
        subst e3
        rw [e2, List.length_map, if_pos hjl]
      · rfl
    refine ⟨setBlock w b (.map (es.modify j (fun e' => { e' with key := key, val := val })) clock), ?_, ⟨es.modify j (fun e' => { e' with key := key, val := val }), clock, since, seen, c0, heap_setBlock_same hb _, ⟨by simpa using F.size, stamped_modify F.stamped _ _ (fun _ _ => rfl) (fun e' _ he' => hkeyf e' he'), ?_⟩, by simpa using hs, ?_, (heap_setBlock_other hb _ hne).trans hr, ?_, ?_, ?_, ?_, hsc, hsk⟩, ⟨rfl, rfl, rfl, by simp [setBlock], fun i _ hi => heap_setBlock_other hb _ (fun e => hi (by rw [e]))⟩⟩
    · simp [Instr.mapUpdate, run_underlying ht, MapKept.run_getObj_map hb, K.check w false hkey, h1, hj, h3, K.stays w hkey, MapKept.run_setObj_map _ hb, Result.andThen, setBlock]
    · intro x hx
      rw [hlist] at hx
      rcases who x hx with rfl | ⟨hx', hne⟩
      · exact ⟨_, rd_mk hkey hv⟩
      · exact F.reads x hx'
    · rw [DataW.put_eq]
      congr 1
      symm
      refine Maps.sorted_put K.one ⟨key, hkey⟩ (fit_keys F) (fit_apart K F) ?_
      rw [filter_one K F hkey h2 h3, hlist, List.map_set, hrgn]
      exact set_perm _ _ (by simpa using hjl) _
    · intro x hx
      rw [hlist] at hx
      rcases who x hx with rfl | ⟨hx', _⟩
      · exact hold e0 he0
      · exact hold x hx'
    · have e1 : ∀ a : Array MapEntry, (leftOf a seen).size = (a.toList.filter fun e => !seen.contains e.born).length := fun a => by
        unfold leftOf
        rw [← Array.toList_filter, Array.length_toList]
      rw [e1, e1, hlist]
      exact filt_born hborn
    · intro x hx
      rw [hlist] at hx
      rcases who x hx with rfl | ⟨hx', _⟩
      · rw [hrgn]
        show left kl = !seen.contains e0.born
        rw [← hl1 e0 he0, hrg0]
      · exact hl1 x hx'
    · intro kl' hkl'
      obtain ⟨x, hx, rfl⟩ := hl2 kl' hkl'
      by_cases hxk : x.key = key
      · obtain ⟨y, hy⟩ := F.reads x hx
        have m1 := rd_key hy
        rw [hxk, hkey] at m1
        refine ⟨_, by rw [hlist]; exact hnew, ?_⟩
        rw [hrgn, rg_of hy]
        exact Option.some.inj m1
      · exact ⟨x, by rw [hlist]; exact back x hx hxk, rfl⟩
end Go
namespace Go.Proofs.YtlidenehfmlebaaGreatDoor
open Go.RowKit Go.Maps Go.WideMaps Go.WideAt
theorem RangeAs.store {w : World} {P : Program} {k t e : TypeId} {b r n : Nat} {m : Lit → Option Value} {left : Lit → Bool} {cnt : Nat} (h : RangeAs w P k b r n m left cnt) (K : Keyed P k) (ht : P.underlying t = some (.map k e)) {key : Value} (val : Value) {kl : Lit} (hkey : keyOf P k key = some kl) (hm : (m kl).isSome = true) :
    ∃ w', (Instr.mapUpdate t (.map (some b)) key val).run P w = .ok () w' ∧ RangeAs w' P k b r n (upd m kl val) left cnt ∧ w.grownBy w' (some b) := by
  obtain ⟨D, h1, h2⟩ := h
  have hkl := K.key hkey
  obtain ⟨w', hrun, h3, h4⟩ := h1.store K ht hkey (yv := (.held val, [])) (val := val) rfl (by rw [(h2 kl hkl).1]; exact hm)
  refine ⟨w', hrun, ⟨_, h3, fun l hl => ?_⟩, h4⟩
  have hD : IsMap D := h1.owns.isMap
  by_cases e : l = kl
  · subst e
    rw [upd_same hl, has_put_same hD hl]
    exact ⟨rfl, fun z => atKey_put_same hD hl _ _⟩
  · rw [upd_other e, has_put_other e]
    exact ⟨(h2 l hl).1, fun z => by rw [atKey_put_other e]; exact (h2 l hl).2 z⟩
theorem RangeAs.drop {w : World} {P : Program} {k t e : TypeId} {b r n : Nat} {m : Lit → Option Value} {left : Lit → Bool} {cnt : Nat} (h : RangeAs w P k b r n m left cnt) (K : Keyed P k) (ht : P.underlying t = some (.map k e)) {key : Value} {kl : Lit} (hkey : keyOf P k key = some kl) (ty : TypeId) :
    ∃ w' cnt', (Builtin.delete_ #[t, k] ty #[.map (some b), key]).run P w = .ok (.tuple #[]) w' ∧ RangeAs w' P k b r n (del m kl) (fun z => left z && !z.sameKey kl) cnt' ∧ cnt' ≤ cnt ∧ w.grownBy w' (some b) := by
  obtain ⟨D, h1, h2⟩ := h
  have hkl := K.key hkey
  obtain ⟨w', cnt', hrun, h3, h4, h5⟩ := h1.drop K ht hkey ty
  refine ⟨w', cnt', hrun, ⟨_, h3, fun l hl => ?_⟩, h4, h5.grown⟩
  by_cases e : l = kl
  · subst e
    rw [del_same hl, has_del_same]
    exact ⟨rfl, fun z => atKey_del_same _⟩
  · rw [del_other e, has_del_other e]
    exact ⟨(h2 l hl).1, fun z => by rw [atKey_del_other e]; exact (h2 l hl).2 z⟩
theorem len_le_of_nodup {α : Type} [DecidableEq α] : ∀ {l : List α} {r : List α}, l.Nodup → (∀ x ∈ l, x ∈ r) → l.length ≤ r.length
  | [], _, _, _ => Nat.zero_le _
  | a :: l, r, hn, hs => by
    rw [List.nodup_cons] at hn
    have h1 := len_le_of_nodup (r := r.erase a) hn.2 (fun x hx => (List.mem_erase_of_ne (fun e => hn.1 (by rw [← e]; exact hx))).2 (hs x (by simp [hx])))
    have ha : a ∈ r := hs a (by simp)
    have h2 := List.length_erase_of_mem ha
    have h3 := List.length_pos_of_mem ha
    simp only [List.length_cons]
    omega
/-- A map has no more entries than it has keys. -/
theorem MapAs.tight {w : World} {P : Program} {k : TypeId} {b n : Nat} {m : Lit → Option Value} (h : MapAs w P k b n m) (K : Keyed P k) {ks : List Lit} (hk : ∀ kl, IsKeyLit kl → (m kl).isSome = true → kl ∈ ks) : MapAs w P k b ks.length m := by
  obtain ⟨D, h1, h2⟩ := h
  obtain ⟨es, clock, hb, F, hs, hD⟩ := h1
  have hkeys : ((es.toList.map (WideElems.rg P k valR)).map Prod.fst).Nodup := by
    unfold List.Nodup
    rw [List.pairwise_map]
    exact Maps.fit_apart K F
  haveI : DecidableEq Lit := fun a b => Classical.propDecidable (a = b)
  have hle := len_le_of_nodup (r := ks) hkeys (fun kl hkl => by
    obtain ⟨p, hp, rfl⟩ := List.mem_map.1 hkl
    obtain ⟨x, hx, rfl⟩ := List.mem_map.1 hp
    obtain ⟨y, hy⟩ := F.reads x hx
    have hil : IsKeyLit (WideElems.rg P k valR x).1 := by rw [WideElems.rg_of hy]; exact K.key (WideElems.rd_key hy)
    refine hk _ hil ?_
    rw [← (h2 _ hil).1, hD]
    exact List.any_eq_true.2 ⟨WideElems.rg P k valR x, mem_sorted.2 hp, sameKey_self hil⟩)
  refine ⟨D, ⟨es, clock, hb, F, by simpa using hle, hD⟩, h2⟩
end Go.Proofs.YtlidenehfmlebaaGreatDoor
