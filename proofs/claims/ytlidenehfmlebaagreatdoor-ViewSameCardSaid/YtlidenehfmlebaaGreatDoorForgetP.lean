/-
  What is left of states when versions are forgotten: plain.
-/
import Derived.Test.YtlidenehfmlebaaGreatDoorTreePlain
set_option linter.unusedVariables false
set_option linter.unusedSimpArgs false
namespace Go.Proofs.YtlidenehfmlebaaGreatDoor
/-- The last version at which a state is so. -/
def toR (now : Int) : List SRow → Int
  | [] => now
  | r :: _ => r.ver - 1
def needR (now : Int) (keep : List Int) (s : SRow) (rest : List SRow) : Bool := decide (toR now rest = now) || keep.any fun v => decide (s.ver ≤ v) && decide (v ≤ toR now rest)
/-- The states that are needed. -/
def keptR (now : Int) (keep : List Int) : List SRow → List SRow
  | [] => []
  | s :: rest => if needR now keep s rest then s :: keptR now keep rest else keptR now keep rest
/-- .. but for those that are gone, ahead of all others. -/
def forgetR (now : Int) (keep : List Int) (rows : List SRow) : List SRow := (keptR now keep rows).dropWhile SRow.gone
theorem keptR_len (now : Int) (keep : List Int) : ∀ rows, (keptR now keep rows).length ≤ rows.length
  | [] => Nat.le_refl _
  | s :: rest => by
    rw [keptR]
    have := keptR_len now keep rest
    split <;> simp <;> omega
theorem keptR_sub (now : Int) (keep : List Int) : ∀ rows, (keptR now keep rows).Sublist rows
  | [] => List.Sublist.refl _
  | s :: rest => by
    rw [keptR]
    split
    · exact (keptR_sub now keep rest).cons_cons s
    · exact (keptR_sub now keep rest).cons s
theorem forgetR_sub (now : Int) (keep : List Int) (rows : List SRow) : (forgetR now keep rows).Sublist rows := (List.dropWhile_sublist _).trans (keptR_sub now keep rows)
theorem forgetR_len (now : Int) (keep : List Int) (rows : List SRow) : (forgetR now keep rows).length ≤ rows.length := (forgetR_sub now keep rows).length_le
/-- The states that are so at a version, or were ahead of it. -/
def seenR (v : Int) (rows : List SRow) : List SRow := rows.filter fun r => decide (r.ver ≤ v)
theorem lastK_seen (rows : List SRow) (v : Int) : ∀ k, k ≤ rows.length → lastK rows v k = (seenR v (rows.take k)).getLast?
  | 0, _ => by simp [lastK, seenR]
  | k + 1, h => by
    have hk : k < rows.length := by omega
    have e : rows.getD k zS = rows[k] := by simp [List.getD, hk]
    rw [lastK, e, List.take_succ_eq_append_getElem hk]
    unfold seenR
    rw [List.filter_append]
    by_cases hv : rows[k].ver ≤ v
    · rw [if_pos hv]
      simp [hv]
    · rw [if_neg hv, lastK_seen rows v k (by omega)]
      simp [hv, seenR]
theorem lastK_all (rows : List SRow) (v : Int) : lastK rows v rows.length = (seenR v rows).getLast? := by
  rw [lastK_seen rows v rows.length (Nat.le_refl _), List.take_length]
theorem getLast_app {α : Type} (a b : List α) : (a ++ b).getLast? = if b = [] then a.getLast? else b.getLast? := by
  by_cases h : b = []
  · subst h; simp
  · rw [if_neg h, List.getLast?_append]
    cases hb : b.getLast? with
    | none => exact absurd (List.getLast?_eq_none_iff.1 hb) h
    | some x => rfl
def Rising (rows : List SRow) : Prop := rows.Pairwise fun a b => a.ver < b.ver
theorem kept_last {now : Int} {keep : List Int} {v : Int} (hv : v ∈ keep ∨ v = now) : ∀ {rows : List SRow}, Rising rows → (∀ r ∈ rows, r.ver ≤ now) → (seenR v (keptR now keep rows)).getLast? = (seenR v rows).getLast?
  | [], _, _ => rfl
  | s :: rest, hr, hn => by
    have hp := List.pairwise_cons.1 hr
    have ih := kept_last hv hp.2 (fun r h => hn r (by simp [h]))
    have e1 : ∀ l : List SRow, seenR v (s :: l) = (if s.ver ≤ v then [s] else []) ++ seenR v l := fun l => by
      unfold seenR
      by_cases h : s.ver ≤ v
      · simp [h]
      · simp [h]
    by_cases he : seenR v rest = []
    · have he2 : seenR v (keptR now keep rest) = [] := by
        rw [he] at ih
        exact List.getLast?_eq_none_iff.1 ih
      by_cases hs : s.ver ≤ v
      · have hneed : needR now keep s rest = true := by
          unfold needR
          cases rest with
          | nil => simp [toR]
          | cons r t =>
            have hrv : ¬ r.ver ≤ v := fun h => by
              have : r ∈ seenR v (r :: t) := List.mem_filter.2 ⟨by simp, by simpa using h⟩
              rw [he] at this
              cases this
            rcases hv with hk | rfl
            · rw [Bool.or_eq_true]
              refine .inr (List.any_eq_true.2 ⟨v, hk, ?_⟩)
              rw [Bool.and_eq_true, decide_eq_true_eq, decide_eq_true_eq]
              exact ⟨hs, by show v ≤ r.ver - 1; omega⟩
            · exact absurd (hn r (by simp)) hrv
        rw [keptR, if_pos hneed, e1, e1, he, he2]
      · rw [keptR, e1, he, if_neg hs]
        split
        · rw [e1, he2, if_neg hs]
        · rw [he2]; rfl
    · have hne : seenR v (keptR now keep rest) ≠ [] := fun h => by
        rw [h] at ih
        exact he (List.getLast?_eq_none_iff.1 ih.symm)
      rw [keptR, e1, getLast_app, if_neg he]
      split
      · rw [e1, getLast_app, if_neg hne, ih]
      · exact ih
/-- What can be seen of a state. -/
def visO : Option SRow → Option SRow
  | some r => if r.gone then none else some r
  | none => none
theorem drop_last (v : Int) : ∀ rows : List SRow, visO (seenR v (rows.dropWhile SRow.gone)).getLast? = visO (seenR v rows).getLast?
  | [] => rfl
  | s :: rest => by
    rw [List.dropWhile_cons]
    split
    · rename_i hg
      rw [drop_last v rest]
      have e1 : seenR v (s :: rest) = (if s.ver ≤ v then [s] else []) ++ seenR v rest := by
        unfold seenR
        by_cases h : s.ver ≤ v
        · simp [h]
        · simp [h]
      rw [e1, getLast_app]
      by_cases he : seenR v rest = []
      · rw [if_pos he, he]
        split
        · simp [visO, hg]
        · rfl
      · rw [if_neg he]
    · rfl
theorem forget_last {now : Int} {keep : List Int} {v : Int} (hv : v ∈ keep ∨ v = now) {rows : List SRow} (hr : Rising rows) (hn : ∀ r ∈ rows, r.ver ≤ now) :
    visO (lastK (forgetR now keep rows) v (forgetR now keep rows).length) = visO (lastK rows v rows.length) := by
  rw [lastK_all, lastK_all, forgetR, drop_last, kept_last hv hr hn]
/-- Files behind a forgetting. -/
def Forgot (now : Int) (keep : List Int) (F F' : List FileS) : Prop :=
  (F'.map fun f => (f.path, f.rows)) = ((F.map fun f => (f.path, forgetR now keep f.rows)).filter fun x => !x.2.isEmpty)
/-- Versions are in order, and there were. -/
def RiseF (now : Int) (F : List FileS) : Prop := ∀ f ∈ F, Rising f.rows ∧ ∀ r ∈ f.rows, 1 ≤ r.ver ∧ r.ver ≤ now
theorem rise_none (now : Int) : RiseF now [] := fun f hf => by cases hf
theorem RiseF.mono {now now' : Int} {F : List FileS} (h : RiseF now F) (hn : now ≤ now') : RiseF now' F := fun f hf => ⟨(h f hf).1, fun r hr => ⟨((h f hf).2 r hr).1, by have := ((h f hf).2 r hr).2; omega⟩⟩
theorem Forgot.mem {now : Int} {keep : List Int} {F F' : List FileS} (h : Forgot now keep F F') {f : FileS} (hf : f ∈ F') : ∃ f0 ∈ F, f0.path = f.path ∧ f.rows = forgetR now keep f0.rows ∧ f.rows ≠ [] := by
  have hm : (f.path, f.rows) ∈ (F'.map fun f => (f.path, f.rows)) := List.mem_map.2 ⟨f, hf, rfl⟩
  rw [h] at hm
  obtain ⟨h1, h2⟩ := List.mem_filter.1 hm
  obtain ⟨f0, h3, h4⟩ := List.mem_map.1 h1
  injection h4 with h4 h5
  refine ⟨f0, h3, h4, h5.symm, fun e => ?_⟩
  simp [e] at h2
theorem Forgot.rise {now : Int} {keep : List Int} {F F' : List FileS} (h : Forgot now keep F F') (hr : RiseF now F) : RiseF now F' := fun f hf => by
  obtain ⟨f0, h0, _, e, _⟩ := h.mem hf
  obtain ⟨h1, h2⟩ := hr f0 h0
  rw [e]
  exact ⟨h1.sublist (forgetR_sub now keep f0.rows), fun r hr => h2 r ((forgetR_sub now keep f0.rows).subset hr)⟩
theorem find_pairs (F : List FileS) (p : ByteArray) : (fileOf F p).map FileS.rows = ((F.map fun f => (f.path, f.rows)).find? fun x => decide (x.1 = p)).map Prod.snd := by
  unfold fileOf
  induction F with
  | nil => rfl
  | cons a r ih =>
    rw [List.map_cons, List.find?_cons, List.find?_cons]
    cases h : decide (a.path = p) with
    | true => rfl
    | false => exact ih
theorem find_kept {L : List (ByteArray × List SRow)} (hn : (L.map Prod.fst).Nodup) (p : ByteArray) : ((L.filter fun x => !x.2.isEmpty).find? fun x => decide (x.1 = p)).map Prod.snd = match (L.find? fun x => decide (x.1 = p)).map Prod.snd with
    | some rows => if rows.isEmpty then none else some rows
    | none => none := by
  induction L with
  | nil => rfl
  | cons a r ih =>
    rw [List.map_cons, List.nodup_cons] at hn
    have ih := ih hn.2
    rw [List.filter_cons, List.find?_cons]
    by_cases hp : a.1 = p
    · have hnone : (r.find? fun x => decide (x.1 = p)) = none := List.find?_eq_none.2 (fun x hx e => hn.1 (List.mem_map.2 ⟨x, hx, by simp at e; rw [e, hp]⟩))
      rw [hnone] at ih
      by_cases he : a.2.isEmpty = true
      · simp only [he, Bool.not_true, Bool.false_eq_true, if_false, hp, decide_true, Option.map_some, if_true]
        exact ih
      · simp only [he, hp, decide_true, Option.map_some]
        simp [hp]
    · have hd : decide (a.1 = p) = false := decide_eq_false hp
      split
      · rw [List.find?_cons, hd]
        exact ih
      · rw [hd]
        exact ih
theorem Forgot.file {now : Int} {keep : List Int} {F F' : List FileS} (h : Forgot now keep F F') (ho : (F.map FileS.path).Nodup) (p : ByteArray) : (fileOf F' p).map FileS.rows = match (fileOf F p).map (fun f => forgetR now keep f.rows) with
    | some rows => if rows.isEmpty then none else some rows
    | none => none := by
  rw [find_pairs, h, find_kept (by rw [List.map_map]; exact ho)]
  have e : ((F.map fun f => (f.path, forgetR now keep f.rows)).find? fun x => decide (x.1 = p)).map Prod.snd = (fileOf F p).map (fun f => forgetR now keep f.rows) := by
    unfold fileOf
    rw [List.find?_map, Option.map_map]
    rfl
  rw [e]
/-- Whoever is kept reads as ever. -/
theorem Forgot.vis {now : Int} {keep : List Int} {F F' : List FileS} (h : Forgot now keep F F') (ho : (F.map FileS.path).Nodup) (hr : RiseF now F) {v : Int} (hv : v ∈ keep ∨ v = now) (p : ByteArray) : visO (atRow F' v p) = visO (atRow F v p) := by
  have hf := h.file ho p
  unfold atRow
  cases h1 : fileOf F p with
  | none =>
    rw [h1] at hf
    cases h2 : fileOf F' p with
    | none => rfl
    | some f' => rw [h2] at hf; cases hf
  | some f =>
    rw [h1] at hf
    obtain ⟨hm, _⟩ := file_mem h1
    have hl := forget_last hv (hr f hm).1 (fun r h => ((hr f hm).2 r h).2)
    simp only [Option.map_some] at hf
    by_cases he : (forgetR now keep f.rows).isEmpty = true
    · rw [if_pos he] at hf
      cases h2 : fileOf F' p with
      | none =>
        simp only
        rw [List.isEmpty_iff.1 he] at hl
        rw [← hl]
        rfl
      | some f' => rw [h2] at hf; cases hf
    · rw [if_neg he] at hf
      cases h2 : fileOf F' p with
      | none => rw [h2] at hf; cases hf
      | some f' =>
        rw [h2] at hf
        injection hf with hf
        simp only
        rw [hf]
        exact hl
theorem read_vis (now : Nat) (F : List FileS) (v : Int) (p : ByteArray) : readT now F v p = if v < 0 ∨ (now : Int) < v then ([], 1) else match visO (atRow F v p) with
    | some r => (r.data, (0 : Int))
    | none => ([], (4 : Int)) := by
  unfold readT
  split
  · rfl
  · cases atRow F v p with
    | none => rfl
    | some r =>
      simp only [visO]
      cases r.gone <;> rfl
theorem there_vis (F : List FileS) (v : Int) (p : ByteArray) : thereB F v p = (visO (atRow F v p)).isSome := by
  unfold thereB
  cases atRow F v p with
  | none => rfl
  | some r =>
    simp only [visO]
    cases r.gone <;> rfl
theorem there_path {F : List FileS} {v : Int} {p : ByteArray} (h : thereB F v p = true) : p ∈ F.map FileS.path := by
  unfold thereB at h
  cases hr : atRow F v p with
  | none => rw [hr] at h; cases h
  | some r =>
    unfold atRow at hr
    cases hf : fileOf F p with
    | none => rw [hf] at hr; cases hr
    | some f =>
      obtain ⟨h1, h2⟩ := file_mem hf
      exact List.mem_map.2 ⟨f, h1, h2⟩
theorem nodup_perm {l r : List ByteArray} (hl : l.Nodup) (hr : r.Nodup) (h : ∀ x, x ∈ l ↔ x ∈ r) : l.Perm r := (List.perm_ext_iff_of_nodup hl hr).2 h
/-- Two trees that show the same at a version list the same. -/
theorem list_vis {now now' : Nat} {F F' : List FileS} (ho : (F.map FileS.path).Nodup) (ho' : (F'.map FileS.path).Nodup) {v v' : Int} (h : ∀ p, thereB F' v' p = thereB F v p) (h0 : 0 ≤ v) (h1 : v ≤ now) (h0' : 0 ≤ v') (h1' : v' ≤ now') (root : ByteArray) :
    listT now' F' v' root = listT now F v root := by
  rw [listT, listT, if_neg (by omega), if_neg (by omega)]
  refine Prod.ext (sortB_perm (nodup_perm (ho'.filter _) (ho.filter _) (fun x => ?_))) rfl
  rw [List.mem_filter, List.mem_filter, listedB, listedB, h x, Bool.and_eq_true]
  constructor
  · rintro ⟨_, a, b⟩
    exact ⟨there_path b, a, b⟩
  · rintro ⟨_, a, b⟩
    refine ⟨there_path (by rw [h x]; exact b), a, b⟩
theorem Forgot.once {now : Int} {keep : List Int} {F F' : List FileS} (h : Forgot now keep F F') (ho : (F.map FileS.path).Nodup) : (F'.map FileS.path).Nodup := by
  have e : F'.map FileS.path = (F'.map fun f => (f.path, f.rows)).map Prod.fst := by rw [List.map_map]; rfl
  rw [e, h]
  have : ((F.map fun f => (f.path, forgetR now keep f.rows)).map Prod.fst).Nodup := by rw [List.map_map]; exact ho
  exact this.sublist ((List.filter_sublist).map _)
theorem Forgot.read {now : Nat} {keep : List Int} {F F' : List FileS} (h : Forgot now keep F F') (ho : (F.map FileS.path).Nodup) (hr : RiseF now F) {v : Int} (hv : v ∈ keep ∨ v = now) (p : ByteArray) : readT now F' v p = readT now F v p := by
  rw [read_vis, read_vis, h.vis ho hr hv]
theorem Forgot.list {now : Nat} {keep : List Int} {F F' : List FileS} (h : Forgot now keep F F') (ho : (F.map FileS.path).Nodup) (hr : RiseF now F) {v : Int} (hv : v ∈ keep ∨ v = now) (h0 : 0 ≤ v) (h1 : v ≤ now) (root : ByteArray) : listT now F' v root = listT now F v root :=
  list_vis ho (h.once ho) (fun p => by rw [there_vis, there_vis, h.vis ho hr hv]) h0 h1 h0 h1 root
theorem rise_put {m : Int} {F : List FileS} (h : RiseF m F) (p : ByteArray) (v : Value) (r : SRow) (hn : r.ver = m) (h0 : 1 ≤ m) (hp : ∀ f ∈ F, f.path = p → ∀ x ∈ f.rows, x.ver < m) : RiseF m (putS F p v r) := fun f hf => by
  have hone : ∀ rows : List SRow, Rising rows → (∀ x ∈ rows, 1 ≤ x.ver ∧ x.ver ≤ m) → (∀ x ∈ rows, x.ver < m) → Rising (rows ++ [r]) ∧ ∀ x ∈ rows ++ [r], 1 ≤ x.ver ∧ x.ver ≤ m := fun rows h1 h2 h3 => by
    refine ⟨List.pairwise_append.2 ⟨h1, by simp, fun a ha b hb => ?_⟩, fun x hx => ?_⟩
    · rw [List.mem_singleton.1 hb, hn]
      exact h3 a ha
    · rcases List.mem_append.1 hx with hx | hx
      · exact h2 x hx
      · rw [List.mem_singleton.1 hx, hn]
        omega
  rcases put_mem hf with ⟨h1, _⟩ | rfl | ⟨f0, h1, e, rfl⟩
  · exact h f h1
  · cases hfo : fileOf F p with
    | none => exact hone [] (by simp [Rising]) (fun x hx => by cases hx) (fun x hx => by cases hx)
    | some f0 =>
      obtain ⟨a, b⟩ := file_mem hfo
      exact hone f0.rows (h f0 a).1 (h f0 a).2 (hp f0 a b)
  · exact hone f0.rows (h f0 h1).1 (h f0 h1).2 (hp f0 h1 e)
theorem rise_puts {now B : Nat} {F F' : List FileS} {l : List ChgD} (h : Puts (now + 1) B F l F') (hr : RiseF now F) (hl : (l.map (·.1)).Nodup) : RiseF ((now + 1 : Nat) : Int) F' ∧ ∀ f ∈ F', f.path ∉ l.map (·.1) → ∀ x ∈ f.rows, x.ver ≤ now := by
  induction h with
  | none => exact ⟨hr.mono (by omega), fun f hf _ x hx => ((hr f hf).2 x hx).2⟩
  | @one F2 l0 c v dv h hd ih =>
    rw [List.map_append, List.nodup_append] at hl
    obtain ⟨i1, i2⟩ := ih hl.1
    have hc : c.1 ∉ l0.map (·.1) := fun hm => hl.2.2 _ hm c.1 (by simp) rfl
    refine ⟨rise_put i1 c.1 v _ rfl (by omega) (fun f hf e x hx => ?_), fun f hf hn x hx => ?_⟩
    · have := i2 f hf (by rw [e]; exact hc) x hx
      omega
    · rw [List.map_append, List.mem_append, not_or] at hn
      have hne : f.path ≠ c.1 := fun e => hn.2 (by simp [e])
      rcases put_mem hf with ⟨h1, _⟩ | rfl | ⟨f0, h1, e, rfl⟩
      · exact i2 f h1 hn.1 x hx
      · exact absurd rfl hne
      · exact absurd rfl hne
end Go.Proofs.YtlidenehfmlebaaGreatDoor
