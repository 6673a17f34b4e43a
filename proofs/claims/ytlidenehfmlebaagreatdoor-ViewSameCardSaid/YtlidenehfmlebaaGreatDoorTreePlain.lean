/-
  What committed changes read as: plain.
-/
import Derived.Test.YtlidenehfmlebaaGreatDoorTreeNew
set_option linter.unusedVariables false
set_option linter.unusedSimpArgs false
namespace Go.Proofs.YtlidenehfmlebaaGreatDoor
open Go.Proofs.YtlidenehfmlebaaGreatDoorW.PrintWords (Kd ReadsRow)
theorem lastK_app (rows s : List SRow) (v : Int) : ∀ k, k ≤ rows.length → lastK (rows ++ s) v k = lastK rows v k
  | 0, _ => rfl
  | k + 1, h => by
    have e : (rows ++ s).getD k zS = rows.getD k zS := by simp [List.getD, List.getElem?_append_left (show k < rows.length by omega)]
    rw [lastK, lastK, e, lastK_app rows s v k (by omega)]
theorem lastK_snoc (rows : List SRow) (r : SRow) (v : Int) : lastK (rows ++ [r]) v (rows ++ [r]).length = if (r.ver : Int) ≤ v then some r else lastK rows v rows.length := by
  have e : (rows ++ [r]).length = rows.length + 1 := by simp
  have e2 : (rows ++ [r]).getD rows.length zS = r := by simp [List.getD]
  rw [e, lastK, e2, lastK_app rows [r] v _ (Nat.le_refl _)]
theorem atRow_put (F : List FileS) (p q : ByteArray) (v : Value) (r : SRow) (ver : Int) : atRow (putS F p v r) ver q = if q = p then (if (r.ver : Int) ≤ ver then some r else atRow F ver p) else atRow F ver q := by
  unfold atRow
  rw [fileOf_put]
  by_cases e : q = p
  · rw [if_pos e, if_pos e]
    simp only
    rw [lastK_snoc]
    cases fileOf F p with
    | none => simp [lastK]
    | some f => rfl
  · rw [if_neg e, if_neg e]
theorem puts_size {n B : Nat} {F F' : List FileS} {l : List ChgD} (h : Puts n B F l F') (ho : (F.map FileS.path).Nodup) : mapN F' = mapN F + l.length ∧ (F'.map FileS.path).Nodup := by
  induction h with
  | none => exact ⟨rfl, ho⟩
  | one c v dv h hd ih =>
    obtain ⟨h1, h2⟩ := ih
    exact ⟨by rw [mapN_put _ h2, h1, List.length_append]; rfl, put_once h2 _ _ _⟩
theorem mapN_len {F : List FileS} (h : ∀ f ∈ F, 0 < f.rows.length) : F.length ≤ mapN F ∧ ∀ f ∈ F, f.rows.length ≤ mapN F := by
  induction F with
  | nil => exact ⟨Nat.zero_le _, fun f hf => by cases hf⟩
  | cons a r ih =>
    obtain ⟨h1, h2⟩ := ih (fun f hf => h f (List.mem_cons_of_mem _ hf))
    have h3 := h a (by simp)
    simp only [mapN, List.map_cons, List.sum_cons, List.length_cons] at h1 h2 ⊢
    refine ⟨by omega, fun f hf => ?_⟩
    rcases List.mem_cons.1 hf with rfl | hf
    · omega
    · have := h2 f hf
      omega
theorem TreeAt.small {w : World} {base g b now m : Nat} {F : List FileS} (h : TreeAt w base g b now F) (hm : mapN F ≤ m) : F.length ≤ m ∧ ∀ f ∈ F, f.rows.length ≤ m := by
  obtain ⟨h1, h2⟩ := mapN_len (fun f hf => (h.files f hf).2.1)
  exact ⟨Nat.le_trans h1 hm, fun f hf => Nat.le_trans (h2 f hf) hm⟩
/-- A path that is not among the changes stays. -/
theorem puts_not {n B : Nat} {F F' : List FileS} {l : List ChgD} (h : Puts n B F l F') {q : ByteArray} (hq : q ∉ l.map (·.1)) (ver : Int) : atRow F' ver q = atRow F ver q := by
  induction h with
  | none => rfl
  | one c v dv h hd ih =>
    rw [List.map_append, List.mem_append, not_or] at hq
    rw [atRow_put, if_neg (fun e => hq.2 (by simp [e])), ih hq.1]
theorem puts_old {n B : Nat} {F F' : List FileS} {l : List ChgD} (h : Puts n B F l F') {ver : Int} (hv : ver < n) (q : ByteArray) : atRow F' ver q = atRow F ver q := by
  induction h with
  | none => rfl
  | one c v dv h hd ih =>
    rw [atRow_put]
    by_cases e : q = c.1
    · rw [if_pos e, if_neg (by show ¬ ((n : Int) ≤ ver); omega), ← e, ih]
    · rw [if_neg e, ih]
/-- A path that is among the changes, each once, reads as its change. -/
theorem puts_mem {n B : Nat} {F F' : List FileS} {l : List ChgD} (h : Puts n B F l F') (hn : (l.map (·.1)).Nodup) {ver : Int} (hv : (n : Int) ≤ ver) {c : ChgD} (hc : c ∈ l) : ∃ dv, (∀ k, dv.ownBlock = some k → B ≤ k) ∧ atRow F' ver c.1 = some ⟨n, dv, c.2.1, c.2.2⟩ := by
  induction h with
  | none => cases hc
  | @one F2 l0 c0 v dv h hd ih =>
    rw [List.map_append, List.nodup_append] at hn
    rw [atRow_put]
    rcases List.mem_append.1 hc with hc | hc
    · have hne : c.1 ≠ c0.1 := hn.2.2 _ (List.mem_map.2 ⟨c, hc, rfl⟩) _ (by simp)
      rw [if_neg hne]
      exact ih hn.1 hc
    · obtain rfl := List.mem_singleton.1 hc
      rw [if_pos rfl, if_pos hv]
      exact ⟨dv, hd, rfl⟩
/-- Each row is an old one, or one of the changes. -/
theorem puts_rows {n B : Nat} {F F' : List FileS} {l : List ChgD} (h : Puts n B F l F') : ∀ f ∈ F', ∀ r ∈ f.rows, (∃ f0 ∈ F, r ∈ f0.rows) ∨ (r.ver = n ∧ ∀ k, r.val.ownBlock = some k → B ≤ k) := by
  induction h with
  | none => exact fun f hf r hr => .inl ⟨f, hf, hr⟩
  | @one F2 l0 c v dv h hd ih =>
    intro f hf r hr
    rcases put_mem hf with ⟨h1, _⟩ | rfl | ⟨f0, h1, _, rfl⟩
    · exact ih f h1 r hr
    · rcases List.mem_append.1 hr with hr | hr
      · cases hfo : fileOf F2 c.1 with
        | none => rw [hfo] at hr; cases hr
        | some f0 =>
          rw [hfo] at hr
          exact ih f0 (file_mem hfo).1 r hr
      · obtain rfl := List.mem_singleton.1 hr
        exact .inr ⟨rfl, hd⟩
    · rcases List.mem_append.1 hr with hr | hr
      · exact ih f0 h1 r hr
      · obtain rfl := List.mem_singleton.1 hr
        exact .inr ⟨rfl, hd⟩
theorem puts_paths {n B : Nat} {F F' : List FileS} {l : List ChgD} (h : Puts n B F l F') : ∀ f ∈ F', f.path ∈ F.map FileS.path ∨ f.path ∈ l.map (·.1) := by
  induction h with
  | none => exact fun f hf => .inl (List.mem_map.2 ⟨f, hf, rfl⟩)
  | @one F2 l0 c v dv h hd ih =>
    intro f hf
    have hin : ∀ f0 ∈ F2, f0.path ∈ F.map FileS.path ∨ f0.path ∈ (l0 ++ [c] : List ChgD).map (·.1) := fun f0 h0 => by
      rcases ih f0 h0 with h1 | h1
      · exact .inl h1
      · exact .inr (by rw [List.map_append]; exact List.mem_append_left _ h1)
    rcases put_mem hf with ⟨h1, _⟩ | rfl | ⟨f0, h1, e, rfl⟩
    · exact hin f h1
    · exact .inr (by simp)
    · exact .inr (by simp)
theorem memB_true {p : ByteArray} {l : List ByteArray} : memB p l = true ↔ p ∈ l := by
  unfold memB
  rw [List.any_eq_true]
  constructor
  · rintro ⟨q, hq, e⟩
    rw [decide_eq_true_eq] at e
    exact e ▸ hq
  · exact fun h => ⟨p, h, by simp⟩
theorem chkGo_once {T : ByteArray → Bool} : ∀ {l : List ChgD} {i : Nat} {seen after : List ByteArray} {n : Nat} {af : List ByteArray} {m : Nat}, chkGo T i seen after n l = .ok af m → (l.map (·.1)).Nodup ∧ (∀ c ∈ l, c.1 ∉ seen) ∧ (∀ c ∈ l, checkB c.1 = none) ∧ (∀ c ∈ l, c.2.2 = true → c.2.1 = [])
  | [], _, _, _, _, _, _, _ => ⟨by simp, (fun c hc => by cases hc), (fun c hc => by cases hc), (fun c hc => by cases hc)⟩
  | c :: r, i, seen, after, n, af, m, h => by
    rw [chkGo] at h
    split at h
    · cases h
    · rename_i h1
      split at h
      · cases h
      · rename_i h2
        split at h
        · cases h
        · rename_i h3
          split at h
          · cases h
          · obtain ⟨a1, a2, a3, a4⟩ := chkGo_once h
            have hns : c.1 ∉ seen := fun hm => h2 (memB_true.2 hm)
            refine ⟨?_, ?_, ?_, ?_⟩
            · rw [List.map_cons, List.nodup_cons]
              refine ⟨fun hm => ?_, a1⟩
              obtain ⟨x, hx, e⟩ := List.mem_map.1 hm
              exact a2 x hx (by rw [e]; simp)
            · intro x hx hm
              rcases List.mem_cons.1 hx with rfl | hx
              · exact hns hm
              · exact a2 x hx (List.mem_append_left _ hm)
            · intro x hx
              rcases List.mem_cons.1 hx with rfl | hx
              · cases hc : checkB x.1 with
                | none => rfl
                | some q => simp [hc] at h1
              · exact a3 x hx
            · intro x hx hg
              rcases List.mem_cons.1 hx with rfl | hx
              · cases hd : x.2.1 with
                | nil => rfl
                | cons a t => simp [hg, hd] at h3
              · exact a4 x hx hg
theorem chkT_ok {now : Nat} {F : List FileS} {l : List ChgD} (h : chkT now F l = .nil) : ∃ af m, chkGo (thereB F now) 0 [] [] 0 l = .ok af m ∧ endT now l.length (af ++ stayL F now (l.map (·.1))) (m + sumL (lenAt F now) (stayL F now (l.map (·.1)))) = .nil := by
  unfold chkT at h
  cases hc : chkGo (thereB F now) 0 [] [] 0 l with
  | bad i cd => rw [hc] at h; cases h
  | ok af m => rw [hc] at h; exact ⟨af, m, rfl, h⟩
/-- What a change that was committed reads as. -/
theorem puts_read {n B : Nat} {F F' : List FileS} {l : List ChgD} (h : Puts n B F l F') (hn : (l.map (·.1)).Nodup) {c : ChgD} (hc : c ∈ l) {now : Nat} {ver : Int} (hv : (n : Int) ≤ ver) (hnow : ver ≤ now) : readT now F' ver c.1 = if c.2.2 then ([], 4) else (c.2.1, 0) := by
  obtain ⟨dv, _, e⟩ := puts_mem h hn hv hc
  rw [readT, if_neg (by omega), e]
theorem read_old {n now now0 B : Nat} {F F' : List FileS} {l : List ChgD} (h : Puts n B F l F') {q : ByteArray} (hq : q ∉ l.map (·.1)) {ver : Int} (h0 : 0 ≤ ver) (h1 : ver ≤ now) (h2 : ver ≤ now0) : readT now F' ver q = readT now0 F ver q := by
  rw [readT, readT, if_neg (by omega), if_neg (by omega), puts_not h hq]
theorem lastK_top {rows : List SRow} {v v' : Int} (h : ∀ r ∈ rows, (r.ver : Int) ≤ v ∧ (r.ver : Int) ≤ v') : ∀ k, k ≤ rows.length → lastK rows v k = lastK rows v' k
  | 0, _ => rfl
  | k + 1, hk => by
    have e : rows.getD k zS = rows[k] := by simp [List.getD, show k < rows.length by omega]
    have hm := h rows[k] (List.getElem_mem (by omega))
    rw [lastK, lastK, e, if_pos hm.1, if_pos hm.2]
theorem atRow_top {F : List FileS} {v v' : Int} (h : ∀ f ∈ F, ∀ r ∈ f.rows, (r.ver : Int) ≤ v ∧ (r.ver : Int) ≤ v') (p : ByteArray) : atRow F v p = atRow F v' p := by
  unfold atRow
  cases hf : fileOf F p with
  | none => rfl
  | some f => exact lastK_top (h f (file_mem hf).1) _ (Nat.le_refl _)
theorem sortB_sub (l : List ByteArray) : (sortB l).Perm l := by
  have h : ((l.map fun s => s.data.toList).mergeSort fun x y => decide (x ≤ y)).Perm (l.map fun s => s.data.toList) := List.mergeSort_perm _ _
  have h2 := h.map fun b => (⟨b.toArray⟩ : ByteArray)
  have e : (l.map fun s => s.data.toList).map (fun b => (⟨b.toArray⟩ : ByteArray)) = l := by
    rw [List.map_map]
    conv => rhs; rw [← List.map_id l]
    exact List.map_congr_left (fun x _ => by simp)
  rw [e] at h2
  exact h2
theorem sortB_iff {l : List ByteArray} {q : ByteArray} : q ∈ sortB l ↔ q ∈ l := (sortB_sub l).mem_iff
theorem list_mem {now : Nat} {F : List FileS} {v : Int} {root q : ByteArray} (h0 : 0 ≤ v) (h1 : v ≤ now) : q ∈ (listT now F v root).1 ↔ q ∈ F.map FileS.path ∧ (beneathB root q).2 = true ∧ thereB F v q = true := by
  rw [listT, if_neg (by omega), sortB_iff, List.mem_filter, listedB, Bool.and_eq_true]
theorem clash_one (p : ByteArray) : clashL [p] = false := by simp [clashL]
/-- A single change that puts a file onto nothing, or onto files of that path alone, is made. -/
theorem chk_put {now : Nat} {F : List FileS} {p : ByteArray} {d : List Int} (hp : checkB p = none) (hF : ∀ f ∈ F, f.path = p) (hd : d.length ≤ 262144) (hn : now < 1048576) : chkT now F [(p, d, false)] = .nil := by
  have hst : stayL F now [p] = [] := by
    unfold stayL
    rw [List.filter_eq_nil_iff]
    intro q hq
    rw [list_mem (by omega) (Int.le_refl _)] at hq
    obtain ⟨f, hf, rfl⟩ := List.mem_map.1 hq.1
    rw [hF f hf]
    simp [memB]
  have hgo : chkGo (thereB F now) 0 [] [] 0 [(p, d, false)] = .ok [p] d.length := by
    simp [chkGo, hp, memB]
  unfold chkT
  rw [hgo]
  simp only [List.map_cons, List.map_nil]
  rw [hst]
  simp only [List.append_nil, endT, clash_one, sumL, List.map_nil, List.sum_nil, List.length_singleton]
  rw [if_neg (by simp), if_neg (by omega)]
end Go.Proofs.YtlidenehfmlebaaGreatDoor
