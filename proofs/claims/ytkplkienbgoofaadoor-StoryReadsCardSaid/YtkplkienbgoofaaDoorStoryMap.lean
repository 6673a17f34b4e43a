/-
  Maps of texts: what they hold, how many; their keys, sorted.
-/
import Derived.Test.YtkplkienbgoofaaDoorIter
import Derived.Test.YtkplkienbgoofaaDoorTreeScript
set_option linter.unusedVariables false
set_option linter.unusedSimpArgs false
namespace Go.Proofs.YtkplkienbgoofaaDoor
open Go.RowKit Go.Maps Go.WideMaps Go.WideAt
/-- Files by their paths. -/
abbrev FM := List (ByteArray × ByteArray)
def getM (M : FM) (p : ByteArray) : Option ByteArray := (M.find? fun x => decide (x.1 = p)).map Prod.snd
def delM (M : FM) (p : ByteArray) : FM := M.filter fun x => !decide (x.1 = p)
def putM (M : FM) (p d : ByteArray) : FM := delM M p ++ [(p, d)]
structure FilesOf (m : Lit → Option Value) (M : FM) : Prop where
  once : (M.map Prod.fst).Nodup
  val : ∀ p, m (keyS p) = (getM M p).map Value.string
  oth : ∀ kl, (∀ p, kl ≠ keyS p) → m kl = none
theorem filesOf_none : FilesOf (fun _ => none) [] := ⟨by simp, fun p => rfl, fun _ _ => rfl⟩
theorem getM_some {M : FM} {p : ByteArray} : (getM M p).isSome = true ↔ p ∈ M.map Prod.fst := by
  unfold getM
  rw [Option.isSome_map, List.find?_isSome]
  constructor
  · rintro ⟨x, hx, e⟩
    exact List.mem_map.2 ⟨x, hx, by simpa using e⟩
  · intro h
    obtain ⟨x, hx, e⟩ := List.mem_map.1 h
    exact ⟨x, hx, by simpa using e⟩
theorem getM_del (M : FM) (p q : ByteArray) : getM (delM M p) q = if q = p then none else getM M q := by
  unfold getM delM
  induction M with
  | nil => simp
  | cons a t ih =>
    rw [List.filter_cons]
    by_cases h : a.1 = p
    · rw [if_neg (by simp [h]), ih, List.find?_cons]
      by_cases e : q = p
      · rw [if_pos e, if_pos e]
      · rw [if_neg e, if_neg e]
        have : decide (a.1 = q) = false := decide_eq_false (fun e2 => e (by rw [← e2, h]))
        rw [this]
    · rw [if_pos (by simp [h]), List.find?_cons, List.find?_cons]
      by_cases e : a.1 = q
      · have hne : q ≠ p := fun e2 => h (by rw [e, e2])
        have hd : decide (a.1 = q) = true := decide_eq_true e
        rw [if_neg hne, hd]
      · have hd : decide (a.1 = q) = false := decide_eq_false e
        rw [hd]
        exact ih
theorem getM_put (M : FM) (p d q : ByteArray) : getM (putM M p d) q = if q = p then some d else getM M q := by
  have hd := getM_del M p q
  unfold getM putM at *
  rw [List.find?_append]
  by_cases e : q = p
  · rw [if_pos e] at hd ⊢
    have h0 : (delM M p).find? (fun x => decide (x.1 = q)) = none := by
      cases h : (delM M p).find? (fun x => decide (x.1 = q)) with
      | none => rfl
      | some x => rw [h] at hd; cases hd
    rw [h0, e]
    simp
  · rw [if_neg e] at hd ⊢
    have h1 : decide (p = q) = false := decide_eq_false (fun e2 => e e2.symm)
    rw [← hd]
    cases h : (delM M p).find? (fun x => decide (x.1 = q)) with
    | none => simp [h1]
    | some x => rfl
theorem delM_once {M : FM} (h : (M.map Prod.fst).Nodup) (p : ByteArray) : ((delM M p).map Prod.fst).Nodup ∧ p ∉ (delM M p).map Prod.fst := by
  unfold delM
  refine ⟨(List.Sublist.map Prod.fst List.filter_sublist).nodup h, fun hp => ?_⟩
  obtain ⟨x, hx, e⟩ := List.mem_map.1 hp
  have := (List.mem_filter.1 hx).2
  simp [e] at this
theorem putM_once {M : FM} (h : (M.map Prod.fst).Nodup) (p d : ByteArray) : ((putM M p d).map Prod.fst).Nodup := by
  obtain ⟨h1, h2⟩ := delM_once h p
  unfold putM
  rw [List.map_append]
  refine List.nodup_append.2 ⟨h1, by simp, fun a ha b hb e => ?_⟩
  rw [List.map_cons, List.map_nil, List.mem_singleton] at hb
  subst e
  have hap : a = p := hb
  rw [hap] at ha
  exact h2 ha
theorem FilesOf.put {m : Lit → Option Value} {M : FM} (h : FilesOf m M) (p d : ByteArray) : FilesOf (upd m (keyS p) (.string d)) (putM M p d) := by
  refine ⟨putM_once h.once p d, fun q => ?_, fun kl hkl => by rw [upd_other (hkl p)]; exact h.oth kl hkl⟩
  rw [getM_put]
  by_cases e : q = p
  · subst e
    rw [upd_same (kl := keyS q) trivial, if_pos rfl]; rfl
  · rw [upd_other (keyS_ne e), if_neg e, h.val q]
theorem FilesOf.del {m : Lit → Option Value} {M : FM} (h : FilesOf m M) (p : ByteArray) : FilesOf (del m (keyS p)) (delM M p) := by
  refine ⟨(delM_once h.once p).1, fun q => ?_, fun kl hkl => by rw [del_other (hkl p)]; exact h.oth kl hkl⟩
  rw [getM_del]
  by_cases e : q = p
  · subst e
    rw [del_same (kl := keyS q) trivial, if_pos rfl]; rfl
  · rw [del_other (keyS_ne e), if_neg e, h.val q]
theorem FilesOf.isSome {m : Lit → Option Value} {M : FM} (h : FilesOf m M) (p : ByteArray) : (m (keyS p)).isSome = true ↔ p ∈ M.map Prod.fst := by
  rw [h.val p, Option.isSome_map, getM_some]
theorem FilesOf.keys {m : Lit → Option Value} {M : FM} (h : FilesOf m M) (kl : Lit) (hk : (m kl).isSome = true) : kl ∈ M.map fun x => keyS x.1 := by
  by_cases e : ∃ p, kl = keyS p
  · obtain ⟨p, rfl⟩ := e
    obtain ⟨x, hx, e⟩ := List.mem_map.1 ((h.isSome p).1 hk)
    exact List.mem_map.2 ⟨x, hx, by rw [e]⟩
  · rw [h.oth kl (fun p e2 => e ⟨p, e2⟩)] at hk
    cases hk
/-- How many entries a map has that holds just some keys. -/
theorem size_of_keys {w : World} {P : Program} {k : TypeId} {b n : Nat} {m : Lit → Option Value} {D : DataW Value} (h1 : w.ownsMap P k valR b n D) (h2 : ∀ kl, IsKeyLit kl → Maps.has D kl = (m kl).isSome) (K : Keyed P k) {ks : List Lit} (hn : ks.Nodup) (hk : ∀ kl, IsKeyLit kl → ((m kl).isSome = true ↔ kl ∈ ks)) (hl : ∀ kl ∈ ks, IsKeyLit kl) : Maps.size D = ks.length := by
  obtain ⟨es, clock, hb, F, hs, hD⟩ := h1
  have hkeys : ((es.toList.map (WideElems.rg P k valR)).map Prod.fst).Nodup := by
    unfold List.Nodup
    rw [List.pairwise_map]
    exact Maps.fit_apart K F
  have hkl : ∀ kl, kl ∈ ((es.toList.map (WideElems.rg P k valR)).map Prod.fst) ↔ kl ∈ ks := fun kl => by
    constructor
    · intro hin
      obtain ⟨p, hp, rfl⟩ := List.mem_map.1 hin
      obtain ⟨x, hx, rfl⟩ := List.mem_map.1 hp
      obtain ⟨y, hy⟩ := F.reads x hx
      have hil : IsKeyLit (WideElems.rg P k valR x).1 := by rw [WideElems.rg_of hy]; exact K.key (WideElems.rd_key hy)
      refine (hk _ hil).1 ?_
      rw [← h2 _ hil, hD]
      exact List.any_eq_true.2 ⟨WideElems.rg P k valR x, mem_sorted.2 hp, sameKey_self hil⟩
    · intro hin
      have hil := hl kl hin
      have hh := (hk kl hil).2 hin
      rw [← h2 kl hil, hD] at hh
      obtain ⟨p, hp, e⟩ := List.any_eq_true.1 hh
      have e1 := WideAt.sameKey_eq e
      exact List.mem_map.2 ⟨p, mem_sorted.1 hp, e1⟩
  haveI : DecidableEq Lit := fun a b => Classical.propDecidable (a = b)
  have hlen : ((es.toList.map (WideElems.rg P k valR)).map Prod.fst).length = ks.length := Nat.le_antisymm (len_le_of_nodup hkeys (fun x hx => (hkl x).1 hx)) (len_le_of_nodup hn (fun x hx => (hkl x).2 hx))
  have hsz : Maps.size D = es.toList.length := by
    rw [hD]
    show ((es.toList.map (WideElems.rg P k valR)).foldr DataW.insert []).length = es.toList.length
    rw [length_sorted]
    simp
  rw [hsz]
  simpa using hlen
/-- Block b is a map of texts that holds M. -/
def FMapAt (w : World) (b : Nat) (M : FM) : Prop := ∃ m, MapAs w Tryd.prog 9 b M.length m ∧ FilesOf m M
theorem FMapAt.below {w w' : World} {b : Nat} {M : FM} (h : FMapAt w b M) (hb : Below w.heap.size w w') : FMapAt w' b M := h.elim fun m ⟨h1, h2⟩ => ⟨m, h1.below hb, h2⟩
theorem FMapAt.lt {w : World} {b : Nat} {M : FM} (h : FMapAt w b M) : b < w.heap.size := h.elim fun m ⟨h1, _⟩ => h1.lt
theorem keysM_once {M : FM} (h : (M.map Prod.fst).Nodup) : (M.map fun x => keyS x.1).Nodup := by
  unfold List.Nodup at *
  rw [List.pairwise_map] at *
  exact h.imp (fun hne => keyS_ne hne)
theorem FilesOf.iff {m : Lit → Option Value} {M : FM} (h : FilesOf m M) (kl : Lit) : (m kl).isSome = true ↔ kl ∈ M.map fun x => keyS x.1 := by
  refine ⟨h.keys kl, fun hin => ?_⟩
  obtain ⟨x, hx, rfl⟩ := List.mem_map.1 hin
  exact (h.isSome x.1).2 (List.mem_map.2 ⟨x, hx, rfl⟩)
/-- len(m). -/
theorem FMapAt.len {w : World} {b : Nat} {M : FM} (h : FMapAt w b M) {t e : TypeId} (ht : Tryd.prog.underlying t = some (.map 9 e)) (ty : TypeId) : (Builtin.len_ #[t] ty #[.map (some b)]).run Tryd.prog w = .ok (.int .i64 ((M.length : Nat) : Int)) w := by
  obtain ⟨m, ⟨D, h1, h2⟩, h3⟩ := h
  have hs := size_of_keys h1 (fun kl hkl => (h2 kl hkl).1) strKeyed (keysM_once h3.once) (fun kl _ => h3.iff kl) (fun kl hin => by
    obtain ⟨x, _, rfl⟩ := List.mem_map.1 hin
    trivial)
  rw [List.length_map] at hs
  rw [h1.len ht ty, hs]
end Go.Proofs.YtkplkienbgoofaaDoor
