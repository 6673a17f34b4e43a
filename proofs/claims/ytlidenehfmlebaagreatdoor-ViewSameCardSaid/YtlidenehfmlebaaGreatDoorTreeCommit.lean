/-
  (*Tree).Commit, New.
-/
import Derived.Test.YtlidenehfmlebaaGreatDoorTreeChk
set_option linter.unusedVariables false
set_option linter.unusedSimpArgs false
namespace Go.Proofs.YtlidenehfmlebaaGreatDoor
open Go.RowKit Go.Maps Go.WideMaps Go.WideAt
open Go.Proofs.YtlidenehfmlebaaGreatDoorW.PrintWords (Kd ReadsRow)
/-- The files with one state more. -/
def putS (F : List FileS) (p : ByteArray) (v : Value) (r : SRow) : List FileS :=
  match fileOf F p with
  | some _ => F.map fun f => if f.path = p then ⟨p, v, f.rows ++ [r]⟩ else f
  | none => F ++ [⟨p, v, [r]⟩]
/-- The files behind changes. -/
inductive Puts (now B : Nat) : List FileS → List ChgD → List FileS → Prop where
  | none (F : List FileS) : Puts now B F [] F
  | one {F F' : List FileS} {l : List ChgD} (c : ChgD) (v dv : Value) (h : Puts now B F l F') (hd : ∀ k, dv.ownBlock = some k → B ≤ k) : Puts now B F (l ++ [c]) (putS F' c.1 v ⟨now, dv, c.2.1, c.2.2⟩)
theorem MapAs.congr {w : World} {P : Program} {k : TypeId} {b n : Nat} {m m' : Lit → Option Value} (h : MapAs w P k b n m) (he : ∀ kl, IsKeyLit kl → m kl = m' kl) : MapAs w P k b n m' := by
  obtain ⟨D, h1, h2⟩ := h
  exact ⟨D, h1, fun kl hkl => by rw [← he kl hkl]; exact h2 kl hkl⟩
theorem fileOf_none {F : List FileS} {p : ByteArray} (h : fileOf F p = none) : ∀ f ∈ F, f.path ≠ p := fun f hf e => by
  have := List.find?_eq_none.1 h f hf
  simp [e] at this
theorem look_other (F : List FileS) (kl : Lit) (h : ∀ p, kl ≠ keyS p) : lookF F kl = none := by
  unfold lookF
  rw [List.find?_eq_none.2 (fun f _ => ?_)]
  · rfl
  · cases hs : (keyS f.path).sameKey kl with
    | false => simp
    | true => exact absurd (sameKey_eq hs).symm (h f.path)
theorem lit_cases (kl : Lit) : (∃ p, kl = keyS p) ∨ ∀ p, kl ≠ keyS p := by
  cases kl with
  | string b => exact .inl ⟨⟨b.toArray⟩, by simp [keyS]⟩
  | bool b => exact .inr (fun p e => by cases e)
  | int k n => exact .inr (fun p e => by cases e)
  | float k n => exact .inr (fun p e => by cases e)
  | nil => exact .inr (fun p e => by cases e)
theorem fileOf_put (F : List FileS) (p q : ByteArray) (v : Value) (r : SRow) : fileOf (putS F p v r) q = if q = p then some ⟨p, v, (match fileOf F p with | some f => f.rows | none => []) ++ [r]⟩ else fileOf F q := by
  unfold putS
  cases hf : fileOf F p with
  | none =>
    simp only
    unfold fileOf
    rw [List.find?_append]
    by_cases e : q = p
    · subst e
      have hn : F.find? (fun f => decide (f.path = q)) = none := hf
      rw [hn, if_pos rfl]
      simp
    · have e' : ¬ p = q := fun h => e h.symm
      rw [if_neg e]
      simp [e']
  | some f0 =>
    simp only
    unfold fileOf
    induction F with
    | nil => cases hf
    | cons a rest ih =>
      unfold fileOf at hf ih
      rw [List.map_cons, List.find?_cons, List.find?_cons]
      rw [List.find?_cons] at hf
      by_cases ea : a.path = p
      · rw [if_pos ea]
        simp only [ea, decide_true] at hf
        injection hf with hf
        by_cases e : q = p
        · subst e
          simp only [decide_true, if_true]
          rw [hf]
        · have e' : ¬ p = q := fun h => e h.symm
          simp only [ea, e', decide_false, if_neg e]
          clear ih hf
          induction rest with
          | nil => rfl
          | cons c rest ih2 =>
            rw [List.map_cons, List.find?_cons, List.find?_cons]
            by_cases ec : c.path = p
            · rw [if_pos ec]
              simp only [ec, e', decide_false]
              exact ih2
            · rw [if_neg ec]
              cases decide (c.path = q) with
              | true => rfl
              | false => exact ih2
      · rw [if_neg ea]
        simp only [ea, decide_false] at hf
        have ih := ih hf
        by_cases e : q = p
        · subst e
          rw [if_pos rfl] at ih ⊢
          simp only [ea, decide_false]
          exact ih
        · rw [if_neg e] at ih ⊢
          cases decide (a.path = q) with
          | true => rfl
          | false => exact ih
theorem look_put (F : List FileS) (p : ByteArray) (v : Value) (r : SRow) (kl : Lit) : upd (lookF F) (keyS p) v kl = lookF (putS F p v r) kl := by
  rcases lit_cases kl with ⟨q, rfl⟩ | h
  · rw [lookF_key, fileOf_put]
    by_cases e : q = p
    · subst e
      rw [upd_same (kl := keyS q) trivial, if_pos rfl]
      rfl
    · rw [upd_other (keyS_ne e), if_neg e, lookF_key]
  · rw [look_other _ _ h, upd_other (h p), look_other _ _ h]
theorem put_paths (F : List FileS) (p : ByteArray) (v : Value) (r : SRow) : (putS F p v r).map FileS.path = match fileOf F p with
    | some _ => F.map FileS.path
    | none => F.map FileS.path ++ [p] := by
  unfold putS
  cases hf : fileOf F p with
  | none => simp
  | some f0 =>
    simp only [List.map_map]
    refine List.map_congr_left (fun f _ => ?_)
    by_cases e : f.path = p
    · simp [e]
    · simp [e]
theorem put_once {F : List FileS} (h : (F.map FileS.path).Nodup) (p : ByteArray) (v : Value) (r : SRow) : ((putS F p v r).map FileS.path).Nodup := by
  rw [put_paths]
  cases hf : fileOf F p with
  | some _ => exact h
  | none =>
    simp only
    rw [List.nodup_append]
    refine ⟨h, by simp, fun a ha b hb e => ?_⟩
    rw [List.mem_singleton.1 hb] at e
    obtain ⟨f, hfm, hfp⟩ := List.mem_map.1 ha
    exact fileOf_none hf f hfm (hfp.trans e)
theorem put_mem {F : List FileS} {p : ByteArray} {v : Value} {r : SRow} {f : FileS} (h : f ∈ putS F p v r) : (f ∈ F ∧ f.path ≠ p) ∨ f = ⟨p, v, (match fileOf F p with | some f => f.rows | none => []) ++ [r]⟩ ∨ (∃ f0 ∈ F, f0.path = p ∧ f = ⟨p, v, f0.rows ++ [r]⟩) := by
  unfold putS at h
  cases hf : fileOf F p with
  | none =>
    rw [hf] at h
    rcases List.mem_append.1 h with h | h
    · exact .inl ⟨h, fileOf_none hf f h⟩
    · exact .inr (.inl (List.mem_singleton.1 h))
  | some f0 =>
    rw [hf] at h
    obtain ⟨f1, hf1, rfl⟩ := List.mem_map.1 h
    by_cases e : f1.path = p
    · rw [if_pos e]
      exact .inr (.inr ⟨f1, hf1, e, rfl⟩)
    · rw [if_neg e]
      exact .inl ⟨hf1, e⟩
theorem mapN_put (F : List FileS) (h : (F.map FileS.path).Nodup) (p : ByteArray) (v : Value) (r : SRow) : mapN (putS F p v r) = mapN F + 1 := by
  unfold putS
  cases hf : fileOf F p with
  | none => simp [mapN]
  | some f0 =>
    simp only
    induction F with
    | nil => cases hf
    | cons a rest ih =>
      rw [List.map_cons, List.nodup_cons] at h
      unfold fileOf at hf ih
      rw [List.find?_cons] at hf
      simp only [mapN, List.map_cons, List.sum_cons] at ih ⊢
      by_cases ea : a.path = p
      · rw [if_pos ea]
        have e2 : (rest.map fun f => if f.path = p then (⟨p, v, f.rows ++ [r]⟩ : FileS) else f) = rest := by
          have : (rest.map fun f => if f.path = p then (⟨p, v, f.rows ++ [r]⟩ : FileS) else f) = rest.map id := List.map_congr_left (fun f hfm => by
            have : f.path ≠ p := fun e => h.1 (List.mem_map.2 ⟨f, hfm, e.trans ea.symm⟩)
            rw [if_neg this]
            rfl)
          rw [this, List.map_id]
        rw [e2]
        simp
        omega
      · rw [if_neg ea]
        simp only [ea, decide_false] at hf
        have := ih h.2 hf
        omega
def rowsOf (F : List FileS) (p : ByteArray) : List SRow := match fileOf F p with
  | some f => f.rows
  | none => []
/-- A row of another type stays while a row grows. -/
theorem own_type {w w' : World} {base base' n n' size size' : Nat} {e t : TypeId} {v u : Value} {xs ys : List Value} (h : w.ownsRow base t size u n xs) (ho : w.ownsRow base' e size' v n' ys) (hne : t ≠ e) (hg : w.grownBy w' v.ownBlock) : w'.ownsRow base t size u n xs := by
  obtain ⟨h1, h2⟩ := h
  refine ⟨h1, ?_⟩
  rcases h2 with h2 | ⟨k, cap, cur, rfl, hbb, hh, r⟩
  · exact .inl h2
  · exact .inr ⟨k, cap, cur, rfl, hbb, op_grown hh ho hne hg, r⟩
theorem file_one {F : List FileS} (h : (F.map FileS.path).Nodup) {f f' : FileS} (hf : f ∈ F) (hf' : f' ∈ F) (e : f.path = f'.path) : f = f' := by
  obtain ⟨i, hi, rfl⟩ := List.getElem_of_mem hf
  obtain ⟨j, hj, rfl⟩ := List.getElem_of_mem hf'
  have hp := List.pairwise_iff_getElem.1 h
  rcases Nat.lt_trichotomy i j with hlt | rfl | hlt
  · have := hp i j (by simpa using hi) (by simpa using hj) hlt
    simp [e] at this
  · rfl
  · have := hp j i (by simpa using hj) (by simpa using hi) hlt
    simp [e] at this
theorem file_apart {F : List FileS} (h : F.Pairwise fun x y => x.val.ownBlock ≠ y.val.ownBlock) {f f' : FileS} (hf : f ∈ F) (hf' : f' ∈ F) (hne : f ≠ f') : f.val.ownBlock ≠ f'.val.ownBlock := by
  obtain ⟨i, hi, rfl⟩ := List.getElem_of_mem hf
  obtain ⟨j, hj, rfl⟩ := List.getElem_of_mem hf'
  have hp := List.pairwise_iff_getElem.1 h
  rcases Nat.lt_trichotomy i j with hlt | rfl | hlt
  · exact hp i j hi hj hlt
  · exact absurd rfl hne
  · exact (hp j i hj hi hlt).symm
theorem TreeAt.rows {w : World} {base g b now : Nat} {F : List FileS} (h : TreeAt w base g b now F) (p : ByteArray) : ∃ v, (lookF F (keyS p)).getD (.slice none 0 0) = v ∧ OffRow w base 157 3 v (rowsOf F p).length ((rowsOf F p).flatMap SRow.cells) := by
  rw [lookF_key]
  unfold rowsOf
  cases hf : fileOf F p with
  | none => exact ⟨_, rfl, rfl, .inl ⟨rfl, rfl⟩⟩
  | some f => exact ⟨_, rfl, (h.files f (file_mem hf).1).1⟩
/-- A state is put behind a path's states. -/
theorem TreeAt.put {w3 w4 w5 : World} {base g b now : Nat} {F : List FileS} (h : TreeAt w3 base g b now F) {p : ByteArray} {oldv v4 : Value} {r : SRow} (hold : (lookF F (keyS p)).getD (.slice none 0 0) = oldv)
    (hown : OffRow w3 base 157 3 oldv (rowsOf F p).length ((rowsOf F p).flatMap SRow.cells)) (h4 : OffRow w4 base 157 3 v4 ((rowsOf F p).length + 1) ((rowsOf F p).flatMap SRow.cells ++ r.cells))
    (hg : w3.grownBy w4 oldv.ownBlock) (hloc : v4.ownBlock = oldv.ownBlock ∨ v4.ownBlock = some w3.heap.size) (hd : DataAt w3 base r) (hps : p.size ≤ 64)
    (hm : MapAs w5 Tryz.prog 9 b (mapN F + 1) (upd (lookF F) (keyS p) v4)) (hg5 : w4.grownBy w5 (some b)) : TreeAt w5 base g b now (putS F p v4 r) := by
  obtain ⟨es3, ck3, hmb3⟩ := h.map.isMap
  obtain ⟨es, ck, hmb⟩ := (h.map.grown hg (hown.ne hmb3)).isMap
  have hgb : g ≠ b := fun e => by
    have := h.cell
    rw [e, hmb3] at this
    cases this
  have hdat : ∀ x, DataAt w3 base x → DataAt w5 base x := fun x hx => ⟨own_mapped (hown.other hx.1 (by decide) hg) hmb hg5, hx.2⟩
  have hsome : ∀ f ∈ F, ∃ k, f.val.ownBlock = some k ∧ k < w3.heap.size := fun f hf => by
    obtain ⟨bb, oo, cc, e, _⟩ := rows_form (h.files f hf)
    have hb : f.val.ownBlock = some bb := by rw [e]; rfl
    exact ⟨bb, hb, ((h.files f hf).1.lt bb hb).2⟩
  have hkeep : ∀ f ∈ F, f.path ≠ p → f.val.ownBlock ≠ oldv.ownBlock := fun f hf hfp => by
    rw [lookF_key] at hold
    cases hfo : fileOf F p with
    | none =>
      rw [hfo] at hold
      obtain ⟨k, hk, _⟩ := hsome f hf
      rw [hk, ← hold]
      simp [Value.ownBlock]
    | some f0 =>
      rw [hfo] at hold
      obtain ⟨h1, h2⟩ := file_mem hfo
      rw [← hold]
      exact file_apart h.apart hf h1 (fun e => hfp (by rw [e]; exact h2))
  have hnew : ∀ f ∈ F, f.path ≠ p → f.val.ownBlock ≠ v4.ownBlock := fun f hf hfp => by
    rcases hloc with e | e
    · rw [e]; exact hkeep f hf hfp
    · obtain ⟨k, hk, hlt⟩ := hsome f hf
      rw [hk, e]
      intro e2
      injection e2 with e2
      omega
  refine ⟨?_, h.hg, h.hb, ?_, put_once h.once p v4 r, ?_, fun f hf => ?_⟩
  · exact (hg5.block g (lt_of_block (hown.block h.cell (by decide) hg)) (fun e => hgb (Option.some.inj e))).trans (hown.block h.cell (by decide) hg)
  · rw [mapN_put F h.once]
    exact hm.congr (fun kl _ => look_put F p v4 r kl)
  · unfold putS
    cases hfo : fileOf F p with
    | none =>
      simp only
      rw [List.pairwise_append]
      refine ⟨h.apart, by simp, fun x hx y hy => ?_⟩
      rw [List.mem_singleton.1 hy]
      exact hnew x hx (fileOf_none hfo x hx)
    | some f0 =>
      simp only
      rw [List.pairwise_map]
      have hpp : F.Pairwise fun x y => x.path ≠ y.path := by
        have := h.once
        unfold List.Nodup at this
        rwa [List.pairwise_map] at this
      have hpa := List.pairwise_iff_getElem.1 h.apart
      have hpb := List.pairwise_iff_getElem.1 hpp
      rw [List.pairwise_iff_getElem]
      intro i j hi hj hij
      have h1 := hpa i j hi hj hij
      have h2 := hpb i j hi hj hij
      by_cases e1 : F[i].path = p
      · have e2 : F[j].path ≠ p := fun e => h2 (e1.trans e.symm)
        rw [if_pos e1, if_neg e2]
        exact (hnew _ (List.getElem_mem hj) e2).symm
      · by_cases e2 : F[j].path = p
        · rw [if_neg e1, if_pos e2]
          exact hnew _ (List.getElem_mem hi) e1
        · rw [if_neg e1, if_neg e2]
          exact h1
  · have hnewf : ∀ rows, rows = rowsOf F p → FileAt w5 base ⟨p, v4, rows ++ [r]⟩ := fun rows hrows => by
      refine ⟨?_, by simp, fun x hx => ?_, hps⟩
      · rw [hrows]
        have e1 : (rowsOf F p ++ [r]).length = (rowsOf F p).length + 1 := by simp
        have e2 : (rowsOf F p ++ [r]).flatMap SRow.cells = (rowsOf F p).flatMap SRow.cells ++ r.cells := by simp
        rw [e1, e2]
        exact h4.mapped hmb hg5
      · rcases List.mem_append.1 hx with hx | hx
        · refine hdat x ?_
          rw [hrows] at hx
          unfold rowsOf at hx
          cases hfo : fileOf F p with
          | none => rw [hfo] at hx; cases hx
          | some f0 =>
            rw [hfo] at hx
            exact (h.files f0 (file_mem hfo).1).2.2.1 x hx
        · rw [List.mem_singleton.1 hx]
          exact hdat r hd
    rcases put_mem hf with ⟨hfm, hfp⟩ | rfl | ⟨f0, hf0, hp0, rfl⟩
    · have hfa := h.files f hfm
      exact ⟨(hfa.1.kept hg (.inr (hkeep f hfm hfp))).mapped hmb hg5, hfa.2.1, fun x hx => hdat x (hfa.2.2.1 x hx), hfa.2.2.2⟩
    · exact hnewf _ rfl
    · refine hnewf _ ?_
      unfold rowsOf
      cases hfo : fileOf F p with
      | none => exact absurd hp0 (fileOf_none hfo f0 hf0)
      | some f1 =>
        obtain ⟨h1, h2⟩ := file_mem hfo
        rw [file_one h.once hf0 h1 (hp0.trans h2.symm)]
/-- All but a tree's own blocks stays. -/
structure TFrame (b : Nat) (w w' : World) : Prop where
  size : w.heap.size ≤ w'.heap.size
  block : ∀ k : Nat, k < w.heap.size → k ≠ b → (∀ (cells : Array Value) (t : TypeId), w.heap[k]? = some (Obj.cells cells t (0, 0)) → t ≠ 106 ∧ t ≠ 157) → w'.heap[k]? = w.heap[k]?
theorem TFrame.refl (b : Nat) (w : World) : TFrame b w w := ⟨Nat.le_refl _, fun _ _ _ _ => rfl⟩
theorem TFrame.trans {b : Nat} {x y z : World} (h1 : TFrame b x y) (h2 : TFrame b y z) : TFrame b x z := ⟨Nat.le_trans h1.size h2.size, fun k hk hb ht => by
  have e := h1.block k hk hb ht
  rw [h2.block k (Nat.lt_of_lt_of_le hk h1.size) hb (fun cs t hc => ht cs t (e ▸ hc)), e]⟩
theorem TFrame.of_below {b : Nat} {w w' : World} (h : Below w.heap.size w w') : TFrame b w w' := ⟨h.size, fun k hk _ _ => h.block k hk⟩
theorem TFrame.of_map {b : Nat} {w w' : World} (h : w.grownBy w' (some b)) : TFrame b w w' := ⟨h.size, fun k hk hb _ => h.block k hk (fun e => hb (Option.some.inj e))⟩
theorem TFrame.of_row {b base n size : Nat} {w w' : World} {v : Value} {xs : List Value} (ho : OffRow w base 157 size v n xs) (h : w.grownBy w' v.ownBlock) : TFrame b w w' := ⟨h.size, fun k hk _ ht => h.block k hk (fun e => by
  obtain ⟨cur, hc⟩ := ho.blk k e.symm
  exact (ht _ _ hc).2 rfl)⟩
theorem TFrame.own {b : Nat} {w w' : World} (h : TFrame b w w') {base size n : Nat} {e : TypeId} {v : Value} {xs : List Value} (ho : w.ownsRow base e size v n xs) (he : e ≠ 106 ∧ e ≠ 157) (hb : ∀ cs t fr, w.heap[b]? ≠ some (Obj.cells cs t fr)) : w'.ownsRow base e size v n xs := by
  obtain ⟨h1, h2⟩ := ho
  refine ⟨h1, ?_⟩
  rcases h2 with h2 | ⟨g, cap, cur, rfl, hbb, hg, r⟩
  · exact .inl h2
  · exact .inr ⟨g, cap, cur, rfl, hbb, (h.block g (lt_of_block hg) (fun e => hb _ _ _ (e ▸ hg)) (fun cells t hc => by rw [hg] at hc; injection hc with hc; injection hc with _ e1; rw [← e1]; exact he)).trans hg, r⟩
end Go.Proofs.YtlidenehfmlebaaGreatDoor
