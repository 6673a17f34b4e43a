/-
  (*Tree).List: the paths beneath a root at a version, in their order.
-/
import Derived.Test.YtlidenehfmlebaaGreatDoorMapRange
import Derived.Test.YtlidenehfmlebaaGreatDoorShelfSort
import Derived.Sort.OwnSorted
import Derived.Sort.KeysCollected
import Derived.Shelf.Slices.In.SortNone
set_option linter.unusedVariables false
set_option linter.unusedSimpArgs false
namespace Go.Proofs.YtlidenehfmlebaaGreatDoor
open Go.RowKit Go.Maps Go.WideMaps
/-- Texts in their order. -/
def sortB (l : List ByteArray) : List ByteArray := ((l.map fun s => s.data.toList).mergeSort fun x y => decide (x ≤ y)).map fun b => ⟨b.toArray⟩
theorem sortB_perm {l r : List ByteArray} (h : l.Perm r) : sortB l = sortB r := by
  unfold sortB
  have := mergeSort_of_perm (h.map fun s => s.data.toList)
  exact congrArg _ this
theorem sortB_len (l : List ByteArray) : (sortB l).length = l.length := by simp [sortB]
def thereB (F : List FileS) (v : Int) (p : ByteArray) : Bool := match atRow F v p with
  | some r => !r.gone
  | none => false
def listedB (F : List FileS) (v : Int) (root : ByteArray) (p : ByteArray) : Bool := (beneathB root p).2 && thereB F v p
def listT (now : Nat) (F : List FileS) (v : Int) (root : ByteArray) : List ByteArray × Int :=
  if v < 0 ∨ (now : Int) < v then ([], 1) else (sortB ((F.map FileS.path).filter (listedB F v root)), 0)
theorem filter_or {α : Type} [DecidableEq α] {A : α → Bool} {x : α} : ∀ {l : List α}, l.Nodup → x ∈ l → A x = false → (l.filter fun p => A p || decide (p = x)).Perm (l.filter A ++ [x])
  | a :: r, hn, hx, hA => by
    rw [List.nodup_cons] at hn
    by_cases e : a = x
    · subst e
      have h1 : (r.filter fun p => A p || decide (p = a)) = r.filter A := List.filter_congr (fun p hp => by
        have : p ≠ a := fun e => hn.1 (e ▸ hp)
        simp [this])
      rw [List.filter_cons, List.filter_cons, h1, hA]
      simp only [decide_true, Bool.or_true, if_true, Bool.false_eq_true, if_false]
      exact (List.perm_append_singleton a (r.filter A)).symm
    · have hxr : x ∈ r := by
        rcases List.mem_cons.1 hx with h | h
        · exact absurd h.symm e
        · exact h
      have ih := filter_or hn.2 hxr hA
      rw [List.filter_cons, List.filter_cons]
      have hd : decide (a = x) = false := decide_eq_false e
      rw [hd, Bool.or_false]
      cases A a with
      | true =>
        simp only [if_true, List.cons_append]
        exact ih.cons a
      | false =>
        simp only [Bool.false_eq_true, if_false]
        exact ih
/-- What has come. -/
def cameL (l : List ByteArray) (good : ByteArray → Bool) (left : Lit → Bool) : List ByteArray := (l.filter good).filter fun p => !left (keyS p)
theorem came_start {l : List ByteArray} {good : ByteArray → Bool} {left : Lit → Bool} (h : ∀ p ∈ l, left (keyS p) = true) : cameL l good left = [] := by
  unfold cameL
  rw [List.filter_eq_nil_iff]
  intro p hp
  rw [h p (List.mem_filter.1 hp).1]
  simp
theorem came_end {l : List ByteArray} {good : ByteArray → Bool} {left : Lit → Bool} (h : ∀ kl, left kl = false) : cameL l good left = l.filter good := by
  unfold cameL
  refine List.filter_eq_self.2 (fun p _ => ?_)
  rw [h]
  rfl
theorem came_eq (l : List ByteArray) (good : ByteArray → Bool) (left : Lit → Bool) (x : ByteArray) : cameL l good (fun z => left z && !z.sameKey (keyS x)) = (l.filter good).filter fun p => !left (keyS p) || decide (p = x) := by
  unfold cameL
  refine List.filter_congr (fun p _ => ?_)
  show (!(left (keyS p) && !(keyS p).sameKey (keyS x))) = _
  rw [keyS_same]
  cases left (keyS p) <;> cases decide (p = x) <;> rfl
theorem came_good {l : List ByteArray} (hn : l.Nodup) {good : ByteArray → Bool} {left : Lit → Bool} {x : ByteArray} (hx : x ∈ l) (hl : left (keyS x) = true) (hg : good x = true) : (cameL l good (fun z => left z && !z.sameKey (keyS x))).Perm (cameL l good left ++ [x]) := by
  rw [came_eq]
  exact filter_or (List.Pairwise.filter _ hn) (List.mem_filter.2 ⟨hx, hg⟩) (by rw [hl]; rfl)
theorem came_bad {l : List ByteArray} {good : ByteArray → Bool} {left : Lit → Bool} {x : ByteArray} (hg : good x = false) : cameL l good (fun z => left z && !z.sameKey (keyS x)) = cameL l good left := by
  rw [came_eq, cameL]
  refine List.filter_congr (fun p hp => ?_)
  have : p ≠ x := fun e => by rw [← e, (List.mem_filter.1 hp).2] at hg; cases hg
  simp [this]
/-- A row of cells stays while another kind of block turns. -/
theorem own_other {w w' : World} {base n size b : Nat} {e : TypeId} {v : Value} {xs : List Value} (h : w.ownsRow base e size v n xs) (hb : ∀ cs t fr, w.heap[b]? ≠ some (Obj.cells cs t fr)) (hg : w.grownBy w' (some b)) : w'.ownsRow base e size v n xs := by
  obtain ⟨h1, h2⟩ := h
  refine ⟨h1, ?_⟩
  rcases h2 with h2 | ⟨g, cap, cur, rfl, hbb, hh, r⟩
  · exact .inl h2
  · refine .inr ⟨g, cap, cur, rfl, hbb, (hg.block g (lt_of_block hh) (fun e => ?_)).trans hh, r⟩
    have : g = b := Option.some.inj e
    rw [this] at hh
    exact hb _ _ _ hh
theorem ne_other {w : World} {base n size b : Nat} {e : TypeId} {v : Value} {xs : List Value} (h : w.ownsRow base e size v n xs) (hb : ∀ cs t fr, w.heap[b]? ≠ some (Obj.cells cs t fr)) : some b ≠ v.ownBlock := by
  rcases h.2 with ⟨rfl, _⟩ | ⟨g, cap, cur, rfl, _, hh, _⟩
  · simp [Value.ownBlock]
  · intro e2
    have : b = g := by simpa [Value.ownBlock] using e2
    rw [← this] at hh
    exact hb _ _ _ hh
theorem RangeAs.no_cells {w : World} {P : Program} {k : TypeId} {b r n : Nat} {m : Lit → Option Value} {left : Lit → Bool} {cnt : Nat} (h : RangeAs w P k b r n m left cnt) : (∀ cs t fr, w.heap[r]? ≠ some (Obj.cells cs t fr)) ∧ ∀ cs t fr, w.heap[b]? ≠ some (Obj.cells cs t fr) := by
  obtain ⟨b', s, s', c, hr⟩ := h.iter
  obtain ⟨es, ck, hb⟩ := h.map.isMap
  exact ⟨fun cs t fr e => (by rw [hr] at e; cases e), fun cs t fr e => (by rw [hb] at e; cases e)⟩
theorem sort_none (A : Option Addr) (c : Nat) (w : World) : Calls Tryz.prog 66 #[.slice A 0 c] w fun e w' => e = .returned (.tuple #[]) ∧ w' = w := by
  first
    | exact Tryz.slices_Sort_string_none A c w
    | exact Any.slices_Sort_string_none Tryz.lays190 A c w
theorem strs_enc (l : List (List UInt8)) : l.map encStr = strs (l.map fun b => ⟨b.toArray⟩) := by simp [strs, encStr]
theorem strs_lit (xs : List ByteArray) : strs xs = (xs.map fun s => s.data.toList).map encStr := by
  simp [strs, encStr]
/-- slices.Sort at a row of the call's own. -/
theorem sort_own (v : Value) (xs : List ByteArray) (w : World) {base : Nat} (hn : xs.length ≤ 100000) (h : w.ownsRow base 9 1 v xs.length (strs xs)) :
    Calls Tryz.prog 66 #[v] w fun e w' => e = .returned (.tuple #[]) ∧ w'.ownsRow base 9 1 v (sortB xs).length (strs (sortB xs)) ∧ w.grownBy w' v.ownBlock := by
  by_cases h0 : xs.length = 0
  · obtain ⟨A, c, rfl⟩ : ∃ A c, v = .slice A 0 c := by
      obtain ⟨A, c, e, _⟩ := ints_form h
      exact ⟨A, c, by rw [e, h0]⟩
    have hx : xs = [] := List.length_eq_zero_iff.1 h0
    subst hx
    refine (sort_none A c w).mono ?_
    rintro e w' ⟨rfl, rfl⟩
    have e1 : sortB [] = [] := by simp [sortB]
    rw [e1]
    exact ⟨rfl, h, rfl, rfl, rfl, Nat.le_refl _, fun _ _ _ => rfl⟩
  · have h' := h
    rcases h.2 with ⟨_, h2⟩ | ⟨g, cap, cur, rfl, hbase, hb, h1, h2, h3, h4⟩
    · omega
    · have hl : (xs.map fun s => s.data.toList).length = xs.length := by simp
      have key := Tryz.slices_Sort_string g 0 cap (xs.map fun s => s.data.toList) w (holds_of_block hb (by rw [hl, ← strs_lit]; simpa using h4)) (lt_of_block hb) (by rw [hl]; omega)
      rw [hl] at key
      refine key.mono ?_
      rintro e w' ⟨rfl, n, os, rfl⟩
      refine ⟨rfl, ?_, grownBy_sorted _⟩
      have ho := ownsRow_sorted (w := w) (n := n) (os := os) (ss := xs.map fun s => s.data.toList) (ts := (xs.map fun s => s.data.toList).mergeSort fun x y => decide (x ≤ y)) (by simp) hbase hb (by rw [hl]; exact h1) h2 h3
      rw [hl, strs_enc] at ho
      rw [sortB_len]
      exact ho
theorem there_at {F : List FileS} {v : Int} {p : ByteArray} : ∃ u, atV (atRow F v p) = .tuple #[u, .bool (thereB F v p)] := by
  unfold thereB
  cases atRow F v p with
  | some r => exact ⟨_, rfl⟩
  | none => exact ⟨_, rfl⟩
theorem path_look {F : List FileS} {p : ByteArray} (h : p ∈ F.map FileS.path) : (lookF F (keyS p)).isSome = true := by
  rw [lookF_key]
  obtain ⟨f, hf, e⟩ := List.mem_map.1 h
  cases hc : fileOf F p with
  | some f => rfl
  | none =>
    have := List.find?_eq_none.1 hc f hf
    simp [e] at this
theorem look_path {F : List FileS} {p : ByteArray} {c : Value} (h : lookF F (keyS p) = some c) : p ∈ F.map FileS.path := by
  rw [lookF_key] at h
  cases hc : fileOf F p with
  | none => rw [hc] at h; cases h
  | some f =>
    obtain ⟨h1, h2⟩ := file_mem hc
    exact List.mem_map.2 ⟨f, h1, h2⟩
theorem came_len (l : List ByteArray) (good : ByteArray → Bool) (left : Lit → Bool) : (cameL l good left).length ≤ l.length :=
  Nat.le_trans (List.length_filter_le _ _) (List.length_filter_le _ _)
theorem infoTxt : (Tryz.prog.info? 9).map (fun i => (i.zero, i.size, i.bytes)) = some (some (.string ⟨#[]⟩), 1, 16) := by kernel_rfl
def ListPost (now : Nat) (F : List FileS) (v : Int) (root : ByteArray) (w : World) (e : Ending) (w' : World) : Prop :=
  ∃ u, e = .returned (.tuple #[u, .int .i64 (listT now F v root).2]) ∧ w'.ownsRow w.heap.size 9 1 u (listT now F v root).1.length (strs (listT now F v root).1) ∧ Below w.heap.size w w'
set_option maxRecDepth 100000 in
set_option maxHeartbeats 8000000 in
theorem list_any (g b now : Nat) (v : Int) (root : ByteArray) (F : List FileS) (w : World) {base : Nat} (hroot : root.size ≤ 140737488351232) (hr : ∀ f ∈ F, f.rows.length ≤ 100000) (hF : F.length ≤ 100000) (ht : TreeAt w base g b now F) :
    Calls Tryz.prog 40 #[.pointer (some ⟨g, 0, none⟩), .int .i64 v, .string root] w (ListPost now F v root w) := by
  obtain ⟨c0, c1⟩ := tree_cells ht
  by_cases h1 : v < 0
  · have d1 : decide (v < 0) = true := decide_eq_true h1
    have HR : Hid (listT now F v root = ([], 1)) := Lib.hid (by rw [listT, if_pos (.inl h1)])
    clear ht hr
    go_enter Tryz.func40, Tryz.ntmps40
    go_wp2_with fail
    go_ret2
    refine ⟨.slice none 0 0, ?_⟩
    rw [HR.out]
    exact ⟨rfl, ⟨rfl, .inl ⟨rfl, rfl⟩⟩, Below.refl _ _⟩
  · have d1 : decide (v < 0) = false := decide_eq_false h1
    by_cases h2 : (now : Int) < v
    · have d2 : decide ((now : Int) < v) = true := decide_eq_true h2
      have HR : Hid (listT now F v root = ([], 1)) := Lib.hid (by rw [listT, if_pos (.inr h2)])
      clear ht hr
      go_enter Tryz.func40, Tryz.ntmps40
      go_wp2_with fail
      go_ret2
      refine ⟨.slice none 0 0, ?_⟩
      rw [HR.out]
      exact ⟨rfl, ⟨rfl, .inl ⟨rfl, rfl⟩⟩, Below.refl _ _⟩
    · have d2 : decide ((now : Int) < v) = false := decide_eq_false h2
      have HR : Hid (listT now F v root = (sortB ((F.map FileS.path).filter (listedB F v root)), 0)) := Lib.hid (by rw [listT, if_neg (by omega)])
      have HT := Lib.hid ht
      have HRR := Lib.hid hr
      obtain ⟨j0, hj0, hjz0, hjz1, hjz2⟩ := info_parts infoTxt
      clear ht hr
      go_enter Tryz.func40, Tryz.ntmps40
      go_wp2_with (first | (at_range; go_loud (refine wpList_range_as _ rfl _ 104 rfl 9 107 strKeyed Tryz.underlying104 b (mapN F) (lookF F) rfl HT.out.map ?_); intro w0 left0 cnt0 hrg0 hl0 hg0 hs0) | go_in)
      have HP := Lib.hid HT.out.once
      have HB0 := Lib.hid (below_of_grown hg0)
      have HRG0 := Lib.hid hrg0
      have HL0 := Lib.hid hl0
      clear hg0 hrg0 hl0
      go_loopw [8] (fun out wr => ∃ (left : Lit → Bool) (cnt : Nat) (xs : List ByteArray), RangeAs wr Tryz.prog 9 b w.heap.size (mapN F) (lookF F) left cnt ∧ wr.ownsRow w.heap.size 9 1 out xs.length (strs xs) ∧ xs.Perm (cameL (F.map FileS.path) (listedB F v root) left) ∧ Below w.heap.size w wr) (fun _ wr => wr.rangeLeft b w.heap.size)
      case atStart => exact ⟨left0, cnt0, [], HRG0.out, ⟨rfl, .inl ⟨rfl, rfl⟩⟩, by rw [came_start (fun p hp => (HL0.out (keyS p) trivial).trans (path_look hp))], HB0.out⟩
      case round =>
        obtain ⟨left, cnt, xs, hrg, hox, hpm, hbr⟩ := hrel
        have hxl : xs.length ≤ 100000 := by
          have := hpm.length_eq
          have := came_len (F.map FileS.path) (listedB F v root) left
          simp only [List.length_map] at this
          omega
        have HRG := Lib.hid hrg
        have HOX := Lib.hid hox
        have HPM := Lib.hid hpm
        have HBR := Lib.hid hbr
        have hszr := hbr.size
        clear hrg hox hpm hbr
        go_wp2_with (first | (at_next; refine wpList_next_as _ rfl _ rfl 9 Tryz.underlying9 strKeyed b w.heap.size (mapN F) (lookF F) _ _ rfl HRG.out ?_ ?_) | go_in)
        · intro hnone
          have hpm2 := HPM.out
          rw [came_end hnone] at hpm2
          have HSO := Lib.hid (sortB_perm hpm2)
          clear hpm2 hnone
          go_wp2_with fail
          refine (sort_own _ xs _ hxl HOX.out).mono ?_
          rw [HSO.out]
          rintro e w3 ⟨rfl, ho3, hg3⟩
          go_wp2_with fail
          go_ret2
          refine ⟨u8, by rw [HR.out]; rfl, by rw [HR.out]; exact ho3, HBR.out.grown hg3 hszr (fun k hk => (HOX.out.lt k hk).1)⟩
        · intro x c w1 cnt1 hxm hlx hmx hrg1 hlt hg1 hs1 hen
          have hnc := HRG.out.no_cells
          have hox1 := own_other HOX.out hnc.1 hg1
          have hxp := look_path hmx
          have HXP := Lib.hid hxp
          have HLX := Lib.hid hlx
          have HRG1 := Lib.hid hrg1
          have HOX1 := Lib.hid hox1
          have HB1 := Lib.hid (HBR.out.grown hg1 hszr (fun k hk => by cases hk; exact Nat.le_refl _))
          have hsz1 := HB1.out.size
          have HLT : Hid (w1.rangeLeft b w.heap.size < wr.rangeLeft b w.heap.size) := Lib.hid (by rw [hrg1.left_eq, HRG.out.left_eq]; exact hlt)
          clear hnc hox1 hxp hlx hmx hrg1 hlt hg1
          cases hbn : (beneathB root x).2 with
          | false =>
            have HG : Hid (listedB F v root x = false) := Lib.hid (by rw [listedB, hbn]; rfl)
            have HBN := Lib.hid hbn
            clear hbn
            go_wp2_with fail
            refine (beneath_any root x _ hroot).mono ?_
            rw [HBN.out]
            rintro e w2 ⟨rfl, rfl⟩
            go_wp2_with fail
            go_roundw
            case rel => exact ⟨_, cnt1, xs, HRG1.out, HOX1.out, by rw [came_bad HG.out]; exact HPM.out, HB1.out⟩
            case measure => exact HLT.out
          | true =>
            obtain ⟨u, hu⟩ := there_at (F := F) (v := v) (p := x)
            have HAT := Lib.hid (at_any g b now v x F w1 hxm HRR.out (HT.out.below HB1.out))
            have HU := Lib.hid hu
            have HBN := Lib.hid hbn
            clear hu
            cases hth : thereB F v x with
            | false =>
              have HG : Hid (listedB F v root x = false) := Lib.hid (by rw [listedB, hbn, hth]; rfl)
              have HTH := Lib.hid hth
              clear hbn hth
              go_wp2_with fail
              refine (beneath_any root x _ hroot).mono ?_
              rw [HBN.out]
              rintro e w2 ⟨rfl, h2'⟩
              replace h2' := h2'.symm
              subst h2'
              go_wp2_with fail
              refine HAT.out.mono ?_
              rw [HU.out, HTH.out]
              rintro e w3 ⟨rfl, hb3⟩
              go_wp2_with fail
              go_roundw
              case rel => exact ⟨_, cnt1, xs, HRG1.out.below hb3, own_stay HOX1.out hb3, by rw [came_bad HG.out]; exact HPM.out, below_from HB1.out hb3⟩
              case measure => rw [(HRG1.out.below hb3).left_eq, ← HRG1.out.left_eq]; exact HLT.out
            | true =>
              have HG : Hid (listedB F v root x = true) := Lib.hid (by rw [listedB, hbn, hth]; rfl)
              have HTH := Lib.hid hth
              clear hbn hth
              go_wp2_with fail
              refine (beneath_any root x _ hroot).mono ?_
              rw [HBN.out]
              rintro e w2 ⟨rfl, h2'⟩
              replace h2' := h2'.symm
              subst h2'
              go_wp2_with fail
              refine HAT.out.mono ?_
              rw [HU.out, HTH.out]
              rintro e w3 ⟨rfl, hb3⟩
              have hrg3 := (HRG1.out.below hb3).below (below_one w3 (.cells #[.string x] 9))
              have HOW3 : Hid ((w3.alloc (.cells #[.string x] 9)).ownsRow w.heap.size 9 1 u8 xs.length (strs xs)) := own_stay (own_stay HOX1.out hb3) (below_one _ _)
              have HRG3 := Lib.hid hrg3
              have HB3 := Lib.hid (below_from HB1.out hb3)
              have hsz3 := HB3.out.size
              clear hrg3 hb3
              go_wp2_with (at_builtin; go_loud (refine wpList_append_own _ rfl (.tmp 49) (.tmp 51) 24 rfl w.heap.size 9 j0 (.string ⟨#[]⟩) 1 16 Tryz.underlying24 hj0 hjz0 hjz1 hjz2 rfl (by decide) u8 xs.length (strs xs) (by simp [Act.eval, Act.put]) HOW3.out ⟨w3.heap.size, 0, none⟩ 1 1 [.string x] (by simp [Act.eval, Act.put]) rfl (cell_one_new _ _ _) (fun u hu => by (simp at hu; subst hu; rfl)) (by unfold maxLen; omega) (by omega) (by simp; omega) ?_); intro v9 w9 hown9 hg9 _)
              have hnc := HRG3.out.no_cells
              have hrg9 := HRG3.out.kept hg9 (ne_other HOW3.out hnc.2) (ne_other HOW3.out hnc.1)
              have HRG9 := Lib.hid hrg9
              have HB9 := Lib.hid ((below_from HB3.out (below_one w3 (.cells #[.string x] 9))).grown hg9 (by simp; omega) (fun k hk => (HOW3.out.lt k hk).1))
              clear hnc hrg9 hg9
              go_roundw
              case rel => exact ⟨_, cnt1, xs ++ [x], HRG9.out, by simpa [strs] using hown9, (HPM.out.append_right [x]).trans (came_good HP.out HXP.out HLX.out HG.out).symm, HB9.out⟩
              case measure => rw [HRG9.out.left_eq, ← HRG1.out.left_eq]; exact HLT.out
end Go.Proofs.YtlidenehfmlebaaGreatDoor
