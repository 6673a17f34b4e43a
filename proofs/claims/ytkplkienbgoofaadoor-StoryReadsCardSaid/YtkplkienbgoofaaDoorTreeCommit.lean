/-
  (*Tree).Commit, New.
-/
import Derived.Test.YtkplkienbgoofaaDoorTreeChk
set_option linter.unusedVariables false
set_option linter.unusedSimpArgs false
namespace Go.Proofs.YtkplkienbgoofaaDoor
open Go.RowKit Go.Maps Go.WideMaps Go.WideAt
open Go.Proofs.YtkplkienbgoofaaDoorW.PrintWords (Kd ReadsRow)
/-- The files with one state more. -/
def putS (F : List FileS) (p : ByteArray) (v : Value) (r : SRow) : List FileS :=
  match fileOf F p with
  | some _ => F.map fun f => if f.path = p then ⟨p, v, f.rows ++ [r]⟩ else f
  | none => F ++ [⟨p, v, [r]⟩]
/-- The files behind changes. -/
inductive Puts (now B : Nat) : List FileS → List ChgD → List FileS → Prop where
  | none (F : List FileS) : Puts now B F [] F
  | one {F F' : List FileS} {l : List ChgD} (c : ChgD) (v dv : Value) (h : Puts now B F l F') (hd : ∀ k, dv.ownBlock = some k → B ≤ k) : Puts now B F (l ++ [c]) (putS F' c.1 v ⟨now, dv, c.2.1, c.2.2⟩)
theorem MapAs.congr {w : World} {P : Program} {k : TypeId} {b n : Nat} {m m' : Lit → Option Value} (h : MapAs w P k b n m) (he : ∀ kl, IsKeyLit kl → m kl = m' kl) : MapAs w P k b n m' := by
  obtain ⟨D, h1, h2⟩ := h
  exact ⟨D, h1, fun kl hkl => by rw [← he kl hkl]; exact h2 kl hkl⟩
theorem fileOf_none {F : List FileS} {p : ByteArray} (h : fileOf F p = none) : ∀ f ∈ F, f.path ≠ p := fun f hf e => by
  have := List.find?_eq_none.1 h f hf
  simp [e] at this
theorem look_other (F : List FileS) (kl : Lit) (h : ∀ p, kl ≠ keyS p) : lookF F kl = none := by
  unfold lookF
  rw [List.find?_eq_none.2 (fun f _ => ?_)]
  · rfl
  · cases hs : (keyS f.path).sameKey kl with
    | false => simp
    | true => exact absurd (sameKey_eq hs).symm (h f.path)
theorem lit_cases (kl : Lit) : (∃ p, kl = keyS p) ∨ ∀ p, kl ≠ keyS p := by
  cases kl with
  | string b => exact .inl ⟨⟨b.toArray⟩, by simp [keyS]⟩
  | bool b => exact .inr (fun p e => by cases e)
  | int k n => exact .inr (fun p e => by cases e)
  | float k n => exact .inr (fun p e => by cases e)
  | nil => exact .inr (fun p e => by cases e)
theorem fileOf_put (F : List FileS) (p q : ByteArray) (v : Value) (r : SRow) : fileOf (putS F p v r) q = if q = p then some ⟨p, v, (match fileOf F p with | some f => f.rows | none => []) ++ [r]⟩ else fileOf F q := by
  unfold putS
  cases hf : fileOf F p with
  | none =>
    simp only
    unfold fileOf
    rw [List.find?_append]
    by_cases e : q = p
    · subst e
      have hn : F.find? (fun f => decide (f.path = q)) = none := hf
      rw [hn, if_pos rfl]
      simp
    · have e' : ¬ p = q := fun h => e h.symm
      rw [if_neg e]
      simp [e']
  | some f0 =>
    simp only
    unfold fileOf
    induction F with
    | nil => cases hf
    | cons a rest ih =>
      unfold fileOf at hf ih
      rw [List.map_cons, List.find?_cons, List.find?_cons]
      rw [List.find?_cons] at hf
      by_cases ea : a.path = p
      · rw [if_pos ea]
        simp only [ea, decide_true] at hf
        injection hf with hf
        by_cases e : q = p
        · subst e
          simp only [decide_true, if_true]
          rw [hf]
        · have e' : ¬ p = q := fun h => e h.symm
          simp only [ea, e', decide_false, if_neg e]
          clear ih hf
          induction rest with
          | nil => rfl
          | cons c rest ih2 =>
            rw [List.map_cons, List.find?_cons, List.find?_cons]
            by_cases ec : c.path = p
            · rw [if_pos ec]
              simp only [ec, e', decide_false]
              exact ih2
            · rw [if_neg ec]
              cases decide (c.path = q) with
              | true => rfl
              | false => exact ih2
      · rw [if_neg ea]
        simp only [ea, decide_false] at hf
        have ih := ih hf
        by_cases e : q = p
        · subst e
          rw [if_pos rfl] at ih ⊢
          simp only [ea, decide_false]
          exact ih
        · rw [if_neg e] at ih ⊢
          cases decide (a.path = q) with
          | true => rfl
          | false => exact ih
theorem look_put (F : List FileS) (p : ByteArray) (v : Value) (r : SRow) (kl : Lit) : upd (lookF F) (keyS p) v kl = lookF (putS F p v r) kl := by
  rcases lit_cases kl with ⟨q, rfl⟩ | h
  · rw [lookF_key, fileOf_put]
    by_cases e : q = p
    · subst e
      rw [upd_same (kl := keyS q) trivial, if_pos rfl]
      rfl
    · rw [upd_other (keyS_ne e), if_neg e, lookF_key]
  · rw [look_other _ _ h, upd_other (h p), look_other _ _ h]
theorem put_paths (F : List FileS) (p : ByteArray) (v : Value) (r : SRow) : (putS F p v r).map FileS.path = match fileOf F p with
    | some _ => F.map FileS.path
    | none => F.map FileS.path ++ [p] := by
  unfold putS
  cases hf : fileOf F p with
  | none => simp
  | some f0 =>
    simp only [List.map_map]
    refine List.map_congr_left (fun f _ => ?_)
    by_cases e : f.path = p
    · simp [e]
    · simp [e]
theorem put_once {F : List FileS} (h : (F.map FileS.path).Nodup) (p : ByteArray) (v : Value) (r : SRow) : ((putS F p v r).map FileS.path).Nodup := by
  rw [put_paths]
  cases hf : fileOf F p with
  | some _ => exact h
  | none =>
    simp only
    rw [List.nodup_append]
    refine ⟨h, by simp, fun a ha b hb e => ?_⟩
    rw [List.mem_singleton.1 hb] at e
    obtain ⟨f, hfm, hfp⟩ := List.mem_map.1 ha
    exact fileOf_none hf f hfm (hfp.trans e)
theorem put_mem {F : List FileS} {p : ByteArray} {v : Value} {r : SRow} {f : FileS} (h : f ∈ putS F p v r) : (f ∈ F ∧ f.path ≠ p) ∨ f = ⟨p, v, (match fileOf F p with | some f => f.rows | none => []) ++ [r]⟩ ∨ (∃ f0 ∈ F, f0.path = p ∧ f = ⟨p, v, f0.rows ++ [r]⟩) := by
  unfold putS at h
  cases hf : fileOf F p with
  | none =>
    rw [hf] at h
    rcases List.mem_append.1 h with h | h
    · exact .inl ⟨h, fileOf_none hf f h⟩
    · exact .inr (.inl (List.mem_singleton.1 h))
  | some f0 =>
    rw [hf] at h
    obtain ⟨f1, hf1, rfl⟩ := List.mem_map.1 h
    by_cases e : f1.path = p
    · rw [if_pos e]
      exact .inr (.inr ⟨f1, hf1, e, rfl⟩)
    · rw [if_neg e]
      exact .inl ⟨hf1, e⟩
theorem mapN_put (F : List FileS) (h : (F.map FileS.path).Nodup) (p : ByteArray) (v : Value) (r : SRow) : mapN (putS F p v r) = mapN F + 1 := by
  unfold putS
  cases hf : fileOf F p with
  | none => simp [mapN]
  | some f0 =>
    simp only
    induction F with
    | nil => cases hf
    | cons a rest ih =>
      rw [List.map_cons, List.nodup_cons] at h
      unfold fileOf at hf ih
      rw [List.find?_cons] at hf
      simp only [mapN, List.map_cons, List.sum_cons] at ih ⊢
      by_cases ea : a.path = p
      · rw [if_pos ea]
        have e2 : (rest.map fun f => if f.path = p then (⟨p, v, f.rows ++ [r]⟩ : FileS) else f) = rest := by
          have : (rest.map fun f => if f.path = p then (⟨p, v, f.rows ++ [r]⟩ : FileS) else f) = rest.map id := List.map_congr_left (fun f hfm => by
            have : f.path ≠ p := fun e => h.1 (List.mem_map.2 ⟨f, hfm, e.trans ea.symm⟩)
            rw [if_neg this]
            rfl)
          rw [this, List.map_id]
        rw [e2]
        simp
        omega
      · rw [if_neg ea]
        simp only [ea, decide_false] at hf
        have := ih h.2 hf
        omega
def rowsOf (F : List FileS) (p : ByteArray) : List SRow := match fileOf F p with
  | some f => f.rows
  | none => []
/-- A row of another type stays while a row grows. -/
theorem own_type {w w' : World} {base base' n n' size size' : Nat} {e t : TypeId} {v u : Value} {xs ys : List Value} (h : w.ownsRow base t size u n xs) (ho : w.ownsRow base' e size' v n' ys) (hne : t ≠ e) (hg : w.grownBy w' v.ownBlock) : w'.ownsRow base t size u n xs := by
  obtain ⟨h1, h2⟩ := h
  refine ⟨h1, ?_⟩
  rcases h2 with h2 | ⟨k, cap, cur, rfl, hbb, hh, r⟩
  · exact .inl h2
  · exact .inr ⟨k, cap, cur, rfl, hbb, op_grown hh ho hne hg, r⟩
theorem file_one {F : List FileS} (h : (F.map FileS.path).Nodup) {f f' : FileS} (hf : f ∈ F) (hf' : f' ∈ F) (e : f.path = f'.path) : f = f' := by
  obtain ⟨i, hi, rfl⟩ := List.getElem_of_mem hf
  obtain ⟨j, hj, rfl⟩ := List.getElem_of_mem hf'
  have hp := List.pairwise_iff_getElem.1 h
  rcases Nat.lt_trichotomy i j with hlt | rfl | hlt
  · have := hp i j (by simpa using hi) (by simpa using hj) hlt
    simp [e] at this
  · rfl
  · have := hp j i (by simpa using hj) (by simpa using hi) hlt
    simp [e] at this
theorem file_apart {F : List FileS} (h : F.Pairwise fun x y => x.val.ownBlock ≠ y.val.ownBlock) {f f' : FileS} (hf : f ∈ F) (hf' : f' ∈ F) (hne : f ≠ f') : f.val.ownBlock ≠ f'.val.ownBlock := by
  obtain ⟨i, hi, rfl⟩ := List.getElem_of_mem hf
  obtain ⟨j, hj, rfl⟩ := List.getElem_of_mem hf'
  have hp := List.pairwise_iff_getElem.1 h
  rcases Nat.lt_trichotomy i j with hlt | rfl | hlt
  · exact hp i j hi hj hlt
  · exact absurd rfl hne
  · exact (hp j i hj hi hlt).symm
end Go.Proofs.YtkplkienbgoofaaDoor
