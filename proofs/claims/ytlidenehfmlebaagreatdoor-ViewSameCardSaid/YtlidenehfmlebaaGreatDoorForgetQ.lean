/-
  Forgetting, file by file: which files there are while the map is ranged over.
-/
import Derived.Test.YtlidenehfmlebaaGreatDoorForgetP
import Derived.Test.YtlidenehfmlebaaGreatDoorMapStore
set_option linter.unusedVariables false
set_option linter.unusedSimpArgs false
namespace Go.Proofs.YtlidenehfmlebaaGreatDoor
open Go.RowKit Go.Maps Go.WideMaps Go.WideAt
def stepOne (now : Int) (keep : List Int) (left : Lit → Bool) (V : ByteArray → Value) (f : FileS) : Option FileS :=
  if left (keyS f.path) then some f else if (forgetR now keep f.rows).isEmpty then none else some ⟨f.path, V f.path, forgetR now keep f.rows⟩
/-- The files while the map is ranged over. -/
def stepF (now : Int) (keep : List Int) (left : Lit → Bool) (V : ByteArray → Value) (F : List FileS) : List FileS := F.filterMap (stepOne now keep left V)
def nextL (left : Lit → Bool) (x : ByteArray) : Lit → Bool := fun z => left z && !z.sameKey (keyS x)
def nextV (V : ByteArray → Value) (x : ByteArray) (v : Value) : ByteArray → Value := fun p => if p = x then v else V p
section
variable {now : Int} {keep : List Int} {left : Lit → Bool} {V : ByteArray → Value} {F : List FileS}
theorem stepOne_path {f u : FileS} (h : stepOne now keep left V f = some u) : u.path = f.path := by
  unfold stepOne at h
  split at h
  · cases h; rfl
  · split at h
    · cases h
    · cases h; rfl
theorem step_start (h : ∀ f ∈ F, left (keyS f.path) = true) : stepF now keep left V F = F := by
  unfold stepF
  induction F with
  | nil => rfl
  | cons a r ih =>
    have e : stepOne now keep left V a = some a := by unfold stepOne; rw [if_pos (h a (by simp))]
    rw [List.filterMap_cons_some e, ih (fun f hf => h f (by simp [hf]))]
theorem step_end (h : ∀ kl, left kl = false) : Forgot now keep F (stepF now keep left V F) := by
  unfold Forgot stepF
  induction F with
  | nil => rfl
  | cons a r ih =>
    by_cases he : (forgetR now keep a.rows).isEmpty = true
    · have e : stepOne now keep left V a = none := by unfold stepOne; rw [if_neg (by simp [h]), if_pos he]
      rw [List.filterMap_cons_none e, ih, List.map_cons, List.filter_cons]
      simp [he]
    · have e : stepOne now keep left V a = some ⟨a.path, V a.path, forgetR now keep a.rows⟩ := by unfold stepOne; rw [if_neg (by simp [h]), if_neg he]
      rw [List.filterMap_cons_some e, List.map_cons, ih, List.map_cons, List.filter_cons]
      simp [he]
theorem fileOf_step (ho : (F.map FileS.path).Nodup) (p : ByteArray) : fileOf (stepF now keep left V F) p = (fileOf F p).bind (stepOne now keep left V) := by
  unfold stepF
  induction F with
  | nil => rfl
  | cons a r ih =>
    rw [List.map_cons, List.nodup_cons] at ho
    have ih := ih ho.2
    have hc : fileOf (a :: r) p = if a.path = p then some a else fileOf r p := by
      unfold fileOf
      rw [List.find?_cons]
      by_cases e : a.path = p <;> simp [e]
    by_cases hp : a.path = p
    · have hr : fileOf r p = none := by
        cases hf : fileOf r p with
        | none => rfl
        | some f =>
          obtain ⟨h1, h2⟩ := file_mem hf
          exact absurd (List.mem_map.2 ⟨f, h1, h2.trans hp.symm⟩) ho.1
      rw [hr] at ih
      rw [hc, if_pos hp]
      show _ = stepOne now keep left V a
      cases hs : stepOne now keep left V a with
      | none => rw [List.filterMap_cons_none hs]; exact ih
      | some u =>
        rw [List.filterMap_cons_some hs]
        unfold fileOf
        rw [List.find?_cons]
        simp [stepOne_path hs, hp]
    · rw [hc, if_neg hp, ← ih]
      cases hs : stepOne now keep left V a with
      | none => rw [List.filterMap_cons_none hs]
      | some u =>
        rw [List.filterMap_cons_some hs]
        unfold fileOf
        rw [List.find?_cons]
        simp [stepOne_path hs, hp]
theorem stepOne_other {x : ByteArray} {v : Value} {f : FileS} (h : f.path ≠ x) : stepOne now keep (nextL left x) (nextV V x v) f = stepOne now keep left V f := by
  have e1 : nextL left x (keyS f.path) = left (keyS f.path) := by
    unfold nextL
    rw [keyS_same, decide_eq_false h]
    simp
  have e2 : nextV V x v f.path = V f.path := if_neg h
  unfold stepOne
  rw [e1, e2]
theorem stepOne_at {x : ByteArray} {v : Value} {f : FileS} (h : f.path = x) : stepOne now keep (nextL left x) (nextV V x v) f = if (forgetR now keep f.rows).isEmpty then none else some ⟨x, v, forgetR now keep f.rows⟩ := by
  have e1 : nextL left x (keyS f.path) = false := by
    unfold nextL
    rw [keyS_same, decide_eq_true h]
    simp
  have e2 : nextV V x v f.path = v := if_pos h
  unfold stepOne
  rw [e1, e2, h]
  rfl
theorem stepOne_left {f : FileS} (h : left (keyS f.path) = true) : stepOne now keep left V f = some f := by unfold stepOne; rw [if_pos h]
theorem look_step (ho : (F.map FileS.path).Nodup) {x : ByteArray} {f : FileS} (hf : fileOf F x = some f) (v : Value) (kl : Lit) :
    (((forgetR now keep f.rows).isEmpty = false) → upd (lookF (stepF now keep left V F)) (keyS x) v kl = lookF (stepF now keep (nextL left x) (nextV V x v) F) kl) ∧
    (((forgetR now keep f.rows).isEmpty = true) → del (upd (lookF (stepF now keep left V F)) (keyS x) v) (keyS x) kl = lookF (stepF now keep (nextL left x) (nextV V x v) F) kl) := by
  obtain ⟨hfm, hfp⟩ := file_mem hf
  rcases lit_cases kl with ⟨q, rfl⟩ | h
  · rw [lookF_key, fileOf_step ho]
    by_cases e : q = x
    · subst e
      rw [hf]
      show (_ → _ = Option.map FileS.val (stepOne now keep (nextL left q) (nextV V q v) f)) ∧ (_ → _ = Option.map FileS.val (stepOne now keep (nextL left q) (nextV V q v) f))
      rw [stepOne_at hfp]
      refine ⟨fun he => ?_, fun he => ?_⟩
      · rw [upd_same (kl := keyS q) trivial, he]; rfl
      · rw [del_same (kl := keyS q) trivial, he]; rfl
    · have e3 : (fileOf F q).bind (stepOne now keep (nextL left x) (nextV V x v)) = (fileOf F q).bind (stepOne now keep left V) := by
        cases hq : fileOf F q with
        | none => rfl
        | some f' => exact stepOne_other (by rw [(file_mem hq).2]; exact e)
      rw [e3, upd_other (keyS_ne e), del_other (keyS_ne e), upd_other (keyS_ne e), lookF_key, fileOf_step ho]
      exact ⟨fun _ => rfl, fun _ => rfl⟩
  · rw [look_other _ _ h, upd_other (h x), del_other (h x), upd_other (h x), look_other _ _ h]
    exact ⟨fun _ => rfl, fun _ => rfl⟩
end
theorem FileAt.mapped {w w' : World} {base b : Nat} {f : FileS} {es : Array MapEntry} {ck : Nat} (h : FileAt w base f) (hb : w.heap[b]? = some (.map es ck)) (hg : w.grownBy w' (some b)) : FileAt w' base f :=
  ⟨h.1.mapped hb hg, h.2.1, fun r hr => ⟨own_mapped (h.2.2.1 r hr).1 hb hg, (h.2.2.1 r hr).2⟩, h.2.2.2⟩
/-- The files at a world. -/
structure FilesIn (w : World) (base : Nat) (F : List FileS) : Prop where
  files : ∀ f ∈ F, FileAt w base f
  apart : F.Pairwise fun x y => x.val.ownBlock ≠ y.val.ownBlock
theorem FilesIn.mapped {w w' : World} {base b : Nat} {F : List FileS} {es : Array MapEntry} {ck : Nat} (h : FilesIn w base F) (hb : w.heap[b]? = some (.map es ck)) (hg : w.grownBy w' (some b)) : FilesIn w' base F :=
  ⟨fun f hf => (h.files f hf).mapped hb hg, h.apart⟩
theorem FilesIn.below {w w' : World} {base : Nat} {F : List FileS} (h : FilesIn w base F) (hb : Below w.heap.size w w') : FilesIn w' base F :=
  ⟨fun f hf => (h.files f hf).below hb, h.apart⟩
theorem FilesIn.kept {w w' : World} {base b : Nat} {F : List FileS} {a1 : Option Nat} {a2 a3 : Nat} (h : FilesIn w base F) (hb : w.heap[b]? = some (.mapIter a1 a2 #[] a3)) (hg : w.grownBy w' (some b)) : FilesIn w' base F :=
  ⟨fun f hf => ⟨(h.files f hf).1.kept hg (.inr (fun e => by
      obtain ⟨cur, hc⟩ := (h.files f hf).1.blk b e
      rw [hb] at hc
      cases hc)), (h.files f hf).2.1, fun r hr => ⟨own_other ((h.files f hf).2.2.1 r hr).1 (fun cs t fr e => by rw [hb] at e; cases e) hg, ((h.files f hf).2.2.1 r hr).2⟩, (h.files f hf).2.2.2⟩, h.apart⟩
theorem FilesIn.other {w w' : World} {base b : Nat} {F : List FileS} (h : FilesIn w base F) (hb : ∀ cs t fr, w.heap[b]? ≠ some (Obj.cells cs t fr)) (hg : w.grownBy w' (some b)) : FilesIn w' base F :=
  ⟨fun f hf => ⟨(h.files f hf).1.kept hg (.inr (fun e => by
      obtain ⟨cur, hc⟩ := (h.files f hf).1.blk b e
      exact hb _ _ _ hc)), (h.files f hf).2.1, fun r hr => ⟨own_other ((h.files f hf).2.2.1 r hr).1 hb hg, ((h.files f hf).2.2.1 r hr).2⟩, (h.files f hf).2.2.2⟩, h.apart⟩
theorem step_next {now : Int} {keep : List Int} {left : Lit → Bool} {V : ByteArray → Value} {F : List FileS} {wr wv : World} {base : Nat} {x : ByteArray} {f : FileS} {v : Value} (ho : (F.map FileS.path).Nodup) (hf : fileOf F x = some f) (hl : left (keyS x) = true)
    (h : FilesIn wr base (stepF now keep left V F)) (hb : Below wr.heap.size wr wv) (hbase : base ≤ wr.heap.size)
    (hv : OffRow wv wr.heap.size 157 3 v (forgetR now keep f.rows).length ((forgetR now keep f.rows).flatMap SRow.cells)) : FilesIn wv base (stepF now keep (nextL left x) (nextV V x v) F) := by
  obtain ⟨hfm, hfp⟩ := file_mem hf
  have hff : FileAt wr base f := h.files f (List.mem_filterMap.2 ⟨f, hfm, stepOne_left (by rw [hfp]; exact hl)⟩)
  have hnew : ∀ u, stepOne now keep (nextL left x) (nextV V x v) f = some u → FileAt wv base u ∧ u.val = v ∧ ∃ k, v.ownBlock = some k ∧ wr.heap.size ≤ k := fun u hu => by
    rw [stepOne_at hfp] at hu
    split at hu
    · cases hu
    · rename_i hne
      cases hu
      have hlen : 0 < (forgetR now keep f.rows).length := by
        rcases Nat.eq_zero_or_pos (forgetR now keep f.rows).length with h0 | h0
        · rw [List.length_eq_zero_iff.1 h0] at hne; simp at hne
        · exact h0
      refine ⟨⟨hv.mono hbase, hlen, fun r hr => ?_, by rw [← hfp]; exact hff.2.2.2⟩, rfl, ?_⟩
      · have := hff.2.2.1 r ((forgetR_sub now keep f.rows).subset hr)
        exact ⟨own_stay this.1 hb, this.2⟩
      · obtain ⟨g, o, cap, e, _⟩ := hv.form hlen
        have e2 : v.ownBlock = some g := by rw [e]; rfl
        exact ⟨g, e2, (hv.lt g e2).1⟩
  have hold : ∀ f' ∈ F, f'.path ≠ x → ∀ u, stepOne now keep (nextL left x) (nextV V x v) f' = some u → FileAt wr base u ∧ stepOne now keep left V f' = some u := fun f' hf' hne u hu => by
    rw [stepOne_other hne] at hu
    exact ⟨h.files u (List.mem_filterMap.2 ⟨f', hf', hu⟩), hu⟩
  have hone : ∀ f' ∈ F, f'.path = x → f' = f := fun f' hf' e => file_one ho hf' hfm (e.trans hfp.symm)
  have hblk : ∀ u, FileAt wr base u → ∃ k, u.val.ownBlock = some k ∧ k < wr.heap.size := fun u hu => by
    obtain ⟨bb, oo, cc, e, _⟩ := rows_form hu
    have e2 : u.val.ownBlock = some bb := by rw [e]; rfl
    exact ⟨bb, e2, (hu.1.lt bb e2).2⟩
  refine ⟨fun u hu => ?_, ?_⟩
  · obtain ⟨f', hf', hu'⟩ := List.mem_filterMap.1 hu
    by_cases e : f'.path = x
    · rw [hone f' hf' e] at hu'
      exact (hnew u hu').1
    · exact (hold f' hf' e u hu').1.below hb
  · have hap := h.apart
    unfold stepF at hap ⊢
    rw [List.pairwise_filterMap] at hap ⊢
    have hpp : F.Pairwise fun a b => a.path ≠ b.path := by
      have := ho
      unfold List.Nodup at this
      rwa [List.pairwise_map] at this
    have hpa := List.pairwise_iff_getElem.1 hap
    have hpb := List.pairwise_iff_getElem.1 hpp
    rw [List.pairwise_iff_getElem]
    intro i j hi hj hij u hu u' hu'
    have h2 := hpb i j hi hj hij
    by_cases e1 : F[i].path = x
    · have e2 : F[j].path ≠ x := fun e => h2 (e1.trans e.symm)
      rw [hone _ (List.getElem_mem hi) e1] at hu
      obtain ⟨_, ev, k, hk, hge⟩ := hnew u hu
      obtain ⟨k', hk', hlt⟩ := hblk u' (hold _ (List.getElem_mem hj) e2 u' hu').1
      rw [ev, hk, hk']
      intro e
      injection e with e
      omega
    · obtain ⟨hfu, hsu⟩ := hold _ (List.getElem_mem hi) e1 u hu
      by_cases e2 : F[j].path = x
      · rw [hone _ (List.getElem_mem hj) e2] at hu'
        obtain ⟨_, ev, k, hk, hge⟩ := hnew u' hu'
        obtain ⟨k', hk', hlt⟩ := hblk u hfu
        rw [ev, hk, hk']
        intro e
        injection e with e
        omega
      · exact hpa i j hi hj hij u hsu u' (hold _ (List.getElem_mem hj) e2 u' hu').2
/-- How many states of a file are forgotten. -/
def dropN (now : Int) (keep : List Int) (rows : List SRow) : Nat := rows.length - (forgetR now keep rows).length
theorem mapN_forgot {now : Int} {keep : List Int} {F F' : List FileS} (h : Forgot now keep F F') : (F.map fun f => dropN now keep f.rows).sum + mapN F' = mapN F := by
  have e1 : mapN F' = ((F'.map fun f => (f.path, f.rows)).map fun x => x.2.length).sum := by rw [List.map_map]; rfl
  rw [e1, h]
  clear e1 h
  induction F with
  | nil => rfl
  | cons a r ih =>
    have hl := forgetR_len now keep a.rows
    simp only [mapN, List.map_cons, List.sum_cons] at ih ⊢
    rw [List.filter_cons]
    split
    · simp only [List.map_cons, List.sum_cons, dropN] at ih ⊢
      omega
    · rename_i he
      have h0 : (forgetR now keep a.rows).length = 0 := by simpa using he
      simp only [dropN] at ih ⊢
      omega
theorem sum_perm {l r : List Nat} (h : l.Perm r) : l.sum = r.sum := by
  induction h with
  | nil => rfl
  | cons x _ ih => simp [ih]
  | swap x y l => simp; omega
  | trans _ _ h1 h2 => exact h1.trans h2
/-- .. of all files that have come. -/
def goneN (now : Int) (keep : List Int) (F : List FileS) (left : Lit → Bool) : Nat := ((cameL (F.map FileS.path) (fun _ => true) left).map fun p => dropN now keep (rowsOf F p)).sum
theorem goneN_start {now : Int} {keep : List Int} {F : List FileS} {left : Lit → Bool} (h : ∀ p ∈ F.map FileS.path, left (keyS p) = true) : goneN now keep F left = 0 := by
  unfold goneN
  rw [came_start h]
  rfl
theorem goneN_next {now : Int} {keep : List Int} {F : List FileS} {left : Lit → Bool} (ho : (F.map FileS.path).Nodup) {x : ByteArray} (hx : x ∈ F.map FileS.path) (hl : left (keyS x) = true) : goneN now keep F (nextL left x) = goneN now keep F left + dropN now keep (rowsOf F x) := by
  unfold goneN
  have := sum_perm ((came_good ho hx hl (good := fun _ => true) rfl).map fun p => dropN now keep (rowsOf F p))
  rw [show nextL left x = fun z => left z && !z.sameKey (keyS x) from rfl, this]
  simp
theorem rowsOf_mem {F : List FileS} (ho : (F.map FileS.path).Nodup) {f : FileS} (hf : f ∈ F) : rowsOf F f.path = f.rows := by
  unfold rowsOf
  cases h : fileOf F f.path with
  | none => exact absurd rfl (fileOf_none h f hf)
  | some f' =>
    obtain ⟨h1, h2⟩ := file_mem h
    rw [file_one ho h1 hf h2]
theorem goneN_end {now : Int} {keep : List Int} {F : List FileS} {left : Lit → Bool} (ho : (F.map FileS.path).Nodup) (h : ∀ kl, left kl = false) : goneN now keep F left = (F.map fun f => dropN now keep f.rows).sum := by
  unfold goneN
  rw [came_end h, List.filter_eq_self.2 (fun _ _ => rfl), List.map_map]
  congr 1
  refine List.map_congr_left (fun f hf => ?_)
  show dropN now keep (rowsOf F f.path) = _
  rw [rowsOf_mem ho hf]
theorem goneN_le {now : Int} {keep : List Int} {F : List FileS} {left : Lit → Bool} {m : Nat} (h : ∀ f ∈ F, f.rows.length ≤ m) : goneN now keep F left ≤ F.length * m := by
  have h1 : ∀ l : List ByteArray, (l.map fun p => dropN now keep (rowsOf F p)).sum ≤ l.length * m := fun l => by
    induction l with
    | nil => simp
    | cons a r ih =>
      have h2 := rowsOf_le (p := a) h
      simp only [List.map_cons, List.sum_cons, List.length_cons, Nat.succ_mul, dropN] at ih ⊢
      omega
  refine Nat.le_trans (h1 _) (Nat.mul_le_mul_right _ ?_)
  have := came_len (F.map FileS.path) (fun _ => true) left
  simpa using this
/-- The states that are kept of the first ones. -/
def keptK (now : Int) (keep : List Int) (rows : List SRow) : Nat → List SRow
  | 0 => []
  | k + 1 => keptK now keep rows k ++ (if needR now keep (rows.getD k zS) (rows.drop (k + 1)) then [rows.getD k zS] else [])
theorem keptK_on (now : Int) (keep : List Int) (rows : List SRow) : ∀ k, k ≤ rows.length → keptK now keep rows k ++ keptR now keep (rows.drop k) = keptR now keep rows
  | 0, _ => by simp [keptK]
  | k + 1, h => by
    have hk : k < rows.length := by omega
    have e : rows.getD k zS = rows[k] := by simp [List.getD, hk]
    rw [← keptK_on now keep rows k (by omega), keptK, e, List.drop_eq_getElem_cons hk, keptR, List.append_assoc]
    congr 1
    split <;> simp
theorem keptK_all (now : Int) (keep : List Int) (rows : List SRow) : keptK now keep rows rows.length = keptR now keep rows := by
  have := keptK_on now keep rows rows.length (Nat.le_refl _)
  simpa [keptR] using this
theorem keptK_len (now : Int) (keep : List Int) (rows : List SRow) : ∀ k, (keptK now keep rows k).length ≤ k
  | 0 => Nat.le_refl _
  | k + 1 => by
    have := keptK_len now keep rows k
    rw [keptK, List.length_append]
    split <;> simp <;> omega
theorem toR_at (now : Int) (rows : List SRow) (k : Nat) : toR now (rows.drop k) = if h : k < rows.length then rows[k].ver - 1 else now := by
  split
  · rename_i h
    rw [List.drop_eq_getElem_cons h]
    rfl
  · rename_i h
    rw [List.drop_eq_nil_of_le (by omega)]
    rfl
end Go.Proofs.YtlidenehfmlebaaGreatDoor
