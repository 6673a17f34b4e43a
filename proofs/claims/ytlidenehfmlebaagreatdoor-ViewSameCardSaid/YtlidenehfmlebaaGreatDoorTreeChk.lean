/-
  (*Tree).Check: can changes be made?
-/
import Derived.Test.YtlidenehfmlebaaGreatDoorTreeList
import Derived.Test.YtlidenehfmlebaaGreatDoorPathAny
import Derived.Deep.CutRange
import Derived.Maps.AppendAt
import Derived.Lib.QuietBelow
set_option linter.unusedVariables false
set_option linter.unusedSimpArgs false
namespace Go.Proofs.YtlidenehfmlebaaGreatDoor
open Go.RowKit Go.Maps Go.WideMaps
open Go.Sort (grow)
open Go.Proofs.YtlidenehfmlebaaGreatDoorW.PrintWords (Kd ReadsRow)
/-- A change: its path, its data, and whether it takes the file out. -/
abbrev ChgD := ByteArray × List Int × Bool
def kChg : Kd ChgD := Kd.pair Kd.string (Kd.pair (Kd.slice 5 (Kd.int .u8)) Kd.bool)
def GoodC (c : ChgD) : Prop := c.1.size ≤ 140737488351232 ∧ (∀ x ∈ c.2.1, (Lit.int .u8 x).wf = true) ∧ c.2.1.length ≤ 300000
/-- Changes that are read. -/
def ChgRow (w : World) (A : Option Addr) (l : List ChgD) : Prop := ∀ k (h : k < l.length), ∃ b off A' c', A = some ⟨b, off, none⟩ ∧ w.cell? ⟨b, off + k * 3, none⟩ = some (.string l[k].1) ∧ w.cell? ⟨b, off + k * 3 + 1, none⟩ = some (.slice A' l[k].2.1.length c') ∧
  w.cell? ⟨b, off + k * 3 + 2, none⟩ = some (.bool l[k].2.2) ∧ l[k].2.1.length ≤ c' ∧ ByteRow w A' l[k].2.1 ∧ (A' = none → l[k].2.1.length = 0)
theorem ChgRow.below {w w' : World} {A : Option Addr} {l : List ChgD} (h : ChgRow w A l) (hb : Below w.heap.size w w') : ChgRow w' A l := fun k hk => by
  obtain ⟨b, off, A', c', h0, h1, h2, h3, h4, h5, h6⟩ := h k hk
  exact ⟨b, off, A', c', h0, cell_below hb h1, cell_below hb h2, cell_below hb h3, h4, h5.below hb, h6⟩
def memB (p : ByteArray) (l : List ByteArray) : Bool := l.any fun q => decide (q = p)
theorem memB_snoc (p q : ByteArray) (l : List ByteArray) : memB p (l ++ [q]) = (memB p l || decide (q = p)) := by simp [memB]
inductive ChkR where
  | bad (i : Nat) (c : Int)
  | ok (after : List ByteArray) (n : Nat)
def chkGo (T : ByteArray → Bool) : Nat → List ByteArray → List ByteArray → Nat → List ChgD → ChkR
  | _, _, after, n, [] => .ok after n
  | i, seen, after, n, c :: r =>
    if (checkB c.1).isSome then .bad i 90 else if memB c.1 seen then .bad i 5 else if c.2.2 && decide (0 < c.2.1.length) then .bad i 31 else if c.2.2 && !T c.1 then .bad i 4
    else chkGo T (i + 1) (seen ++ [c.1]) (if c.2.2 then after else after ++ [c.1]) (if c.2.2 then n else n + c.2.1.length) r
def lenAt (F : List FileS) (v : Int) (p : ByteArray) : Nat := match atRow F v p with
  | some r => r.data.length
  | none => 0
/-- Files that stay as they are. -/
def stayL (F : List FileS) (now : Nat) (seen : List ByteArray) : List ByteArray := (listT now F now ⟨#[]⟩).1.filter fun p => !memB p seen
def sumL (f : ByteArray → Nat) (l : List ByteArray) : Nat := (l.map f).sum
def clashL (after : List ByteArray) : Bool := (List.range after.length).any fun i => (after.take i).any fun q => clashB (after.getD i ⟨#[]⟩) q
def endT (now m : Nat) (after : List ByteArray) (n : Nat) : GErr :=
  if clashL after then .fault m 90 else if 64 < after.length ∨ 262144 < n ∨ now = 1048576 then .fault m 3 else .nil
def chkT (now : Nat) (F : List FileS) (l : List ChgD) : GErr := match chkGo (thereB F now) 0 [] [] 0 l with
  | .bad i c => .fault i c
  | .ok after n => endT now l.length (after ++ stayL F now (l.map (·.1))) (n + sumL (lenAt F now) (stayL F now (l.map (·.1))))
/-- A map of what was seen. -/
def SeenIs (ms : Lit → Option Value) (seen : List ByteArray) : Prop := ∀ p, ms (keyS p) = if memB p seen = true then some (Value.bool true) else none
theorem seen_none : SeenIs (fun _ => none) [] := fun p => rfl
theorem SeenIs.put {ms : Lit → Option Value} {seen : List ByteArray} (h : SeenIs ms seen) (p : ByteArray) : SeenIs (upd ms (keyS p) (.bool true)) (seen ++ [p]) := fun q => by
  rw [memB_snoc]
  by_cases e : q = p
  · subst e
    rw [upd_same (kl := keyS q) trivial, if_pos (by simp)]
  · have e' : ¬ p = q := fun h => e h.symm
    rw [upd_other (keyS_ne e), h q, decide_eq_false e', Bool.or_false]
theorem SeenIs.look {ms : Lit → Option Value} {seen : List ByteArray} (h : SeenIs ms seen) (p : ByteArray) : (ms (keyS p)).getD (.bool false) = .bool (memB p seen) := by
  rw [h p]
  cases memB p seen <;> rfl
theorem zeroBool (w : World) : (zeroValue 4).run Tryz.prog w = .ok (.bool false) w := by kernel_rfl
theorem retErr_new {w W : World} {p k : Int} {g : GErr} (hg : g = .fault p k) (hb : Below w.heap.size w W) :
    RetErr w g (.returned (.iface 186 (.pointer (some ⟨W.heap.size, 0, none⟩)))) (W.alloc (.cells #[.int .i64 p, .int .i64 k] 188)) := by
  subst hg
  have e0 : ∀ i v, (#[.int .i64 p, .int .i64 k] : Array Value)[i]? = some v → (W.alloc (.cells #[.int .i64 p, .int .i64 k] 188)).cell? ⟨W.heap.size, i, none⟩ = some v := fun i v h => by
    rw [World.cell?_alloc_at _ _ _ _ rfl]
    exact h
  exact ⟨_, rfl, ⟨W.heap.size, rfl, e0 0 _ rfl, e0 1 _ rfl, _, _, heap_alloc_new W _⟩, below_from hb (below_one W _)⟩
def restJ (L seen : List ByteArray) (j : Nat) : List ByteArray := (L.take j).filter fun p => !memB p seen
theorem restJ_len (L seen : List ByteArray) (j : Nat) : (restJ L seen j).length ≤ j := Nat.le_trans (List.length_filter_le _ _) (by simp; omega)
theorem restJ_no {L seen : List ByteArray} {j : Nat} (hj : j < L.length) (h : memB L[j] seen = true) : restJ L seen (j + 1) = restJ L seen j := by
  unfold restJ
  rw [List.take_succ_eq_append_getElem hj, List.filter_append]
  simp [h]
theorem restJ_yes {L seen : List ByteArray} {j : Nat} (hj : j < L.length) (h : memB L[j] seen = false) : restJ L seen (j + 1) = restJ L seen j ++ [L[j]] := by
  unfold restJ
  rw [List.take_succ_eq_append_getElem hj, List.filter_append]
  simp [h]
theorem sumL_snoc (f : ByteArray → Nat) (l : List ByteArray) (p : ByteArray) : sumL f (l ++ [p]) = sumL f l + f p := by simp [sumL]
theorem sumL_le {f : ByteArray → Nat} {l : List ByteArray} {m : Nat} (h : ∀ p ∈ l, f p ≤ m) : sumL f l ≤ l.length * m := by
  induction l with
  | nil => simp [sumL]
  | cons a r ih =>
    have h1 := h a (by simp)
    have h2 := ih (fun p hp => h p (by simp [hp]))
    simp only [sumL, List.map_cons, List.sum_cons, List.length_cons] at h2 ⊢
    rw [Nat.succ_mul]
    omega
theorem sortB_mem {l : List ByteArray} {p : ByteArray} (h : p ∈ sortB l) : p ∈ l := by
  obtain ⟨b, hb, rfl⟩ := List.mem_map.1 h
  have := (List.mergeSort_perm _ _).mem_iff.1 hb
  obtain ⟨s, hs, rfl⟩ := List.mem_map.1 this
  have e : (⟨s.data.toList.toArray⟩ : ByteArray) = s := by cases s; simp
  rw [e]
  exact hs
theorem listT_now (now : Nat) (F : List FileS) (root : ByteArray) : (listT now F now root).2 = 0 ∧ (listT now F now root).1.length ≤ F.length ∧ ∀ p ∈ (listT now F now root).1, p ∈ F.map FileS.path ∧ thereB F now p = true := by
  have e : listT now F now root = (sortB ((F.map FileS.path).filter (listedB F now root)), 0) := by rw [listT, if_neg (by omega)]
  rw [e]
  refine ⟨rfl, ?_, fun p hp => ?_⟩
  · rw [sortB_len]
    exact Nat.le_trans (List.length_filter_le _ _) (by simp)
  · have h1 := List.mem_filter.1 (sortB_mem hp)
    have h2 := h1.2
    simp only [listedB, Bool.and_eq_true] at h2
    exact ⟨h1.1, h2.2⟩
theorem there_row {F : List FileS} {v : Int} {p : ByteArray} (h : thereB F v p = true) : ∃ r, atRow F v p = some r ∧ r.gone = false := by
  unfold thereB at h
  cases hr : atRow F v p with
  | none => rw [hr] at h; cases h
  | some r => rw [hr] at h; exact ⟨r, rfl, by simpa using h⟩
theorem strs_cell {w : World} {base : Nat} {A : Option Addr} {n c : Nat} {xs : List ByteArray} (h : w.ownsRow base 9 1 (.slice A n c) n (strs xs)) {k : Nat} (hk : k < xs.length) : ∃ b, A = some ⟨b, 0, none⟩ ∧ w.cell? ⟨b, k, none⟩ = some (.string xs[k]) := by
  have hl : xs.length = n := by have := h.1; simp [strs] at this; omega
  obtain ⟨g, cap, e, _, _⟩ := h.form (by omega)
  injection e with e1 e2 e3
  subst e1
  refine ⟨g, rfl, ?_⟩
  have := h.cellAt k (by omega)
  rw [this]
  simp [strs, hk]
theorem clash_row {l : List ByteArray} {i j : Nat} (hi : i < l.length) (hj : j < i) (h : clashB l[i] (l[j]'(by omega)) = true) : clashL l = true := by
  refine List.any_eq_true.2 ⟨i, List.mem_range.2 hi, List.any_eq_true.2 ⟨l[j]'(by omega), List.mem_take_iff_getElem.2 ⟨j, by omega, rfl⟩, ?_⟩⟩
  have : l.getD i ⟨#[]⟩ = l[i] := by simp [List.getD, hi]
  rw [this]
  exact h
theorem clash_none {l : List ByteArray} (h : ∀ i (hi : i < l.length) j (hj : j < i), clashB l[i] (l[j]'(by omega)) = false) : clashL l = false := by
  unfold clashL
  rw [List.any_eq_false]
  intro i hi
  have hi := List.mem_range.1 hi
  have e : l.getD i ⟨#[]⟩ = l[i] := by simp [List.getD, hi]
  rw [e]
  simp only [Bool.not_eq_true, List.any_eq_false]
  intro q hq
  obtain ⟨j, hj, rfl⟩ := List.mem_take_iff_getElem.1 hq
  simp [h i hi j (by omega)]
theorem endT_clash {now m : Nat} {af : List ByteArray} {sm : Nat} (h : clashL af = true) : endT now m af sm = .fault m 90 := by rw [endT, if_pos h]
theorem endT_full {now m : Nat} {af : List ByteArray} {sm : Nat} (h : clashL af = false) (h2 : 64 < af.length ∨ 262144 < sm ∨ now = 1048576) : endT now m af sm = .fault m 3 := by rw [endT, if_neg (by simp [h]), if_pos h2]
theorem endT_ok {now m : Nat} {af : List ByteArray} {sm : Nat} (h : clashL af = false) (h2 : ¬ (64 < af.length ∨ 262144 < sm ∨ now = 1048576)) : endT now m af sm = .nil := by rw [endT, if_neg (by simp [h]), if_neg h2]
theorem chk_bad {T : ByteArray → Bool} {i : Nat} {seen after : List ByteArray} {n : Nat} {c : ChgD} {r : List ChgD} {cd : Int}
    (h : (if (checkB c.1).isSome then some (90 : Int) else if memB c.1 seen then some 5 else if c.2.2 && decide (0 < c.2.1.length) then some 31 else if c.2.2 && !T c.1 then some 4 else none) = some cd) : chkGo T i seen after n (c :: r) = .bad i cd := by
  rw [chkGo]
  split at h
  · rename_i h1; rw [if_pos h1]; injection h with h; rw [h]
  · rename_i h1; rw [if_neg h1]
    split at h
    · rename_i h2; rw [if_pos h2]; injection h with h; rw [h]
    · rename_i h2; rw [if_neg h2]
      split at h
      · rename_i h3; rw [if_pos h3]; injection h with h; rw [h]
      · rename_i h3; rw [if_neg h3]
        split at h
        · rename_i h4; rw [if_pos h4]; injection h with h; rw [h]
        · cases h
theorem chk_on {T : ByteArray → Bool} {i : Nat} {seen after : List ByteArray} {n : Nat} {c : ChgD} {r : List ChgD} (h1 : checkB c.1 = none) (h2 : memB c.1 seen = false) (h3 : (c.2.2 && decide (0 < c.2.1.length)) = false) (h4 : (c.2.2 && !T c.1) = false) :
    chkGo T i seen after n (c :: r) = chkGo T (i + 1) (seen ++ [c.1]) (if c.2.2 then after else after ++ [c.1]) (if c.2.2 then n else n + c.2.1.length) r := by
  rw [chkGo, h1, h2, h3, h4]
  simp
theorem chkT_bad {now : Nat} {F : List FileS} {l : List ChgD} {i : Nat} {c : Int} (h : chkGo (thereB F now) 0 [] [] 0 l = .bad i c) : chkT now F l = .fault i c := by rw [chkT, h]
set_option maxRecDepth 100000 in
set_option maxHeartbeats 8000000 in
theorem check_tree (g b now : Nat) (A : Option Addr) (c : Nat) (l : List ChgD) (F : List FileS) (w : World) {base : Nat} (hl : l.length ≤ 1000) (hlr : ChgRow w A l) (hgood : ∀ x ∈ l, GoodC x) (hr : ∀ f ∈ F, f.rows.length ≤ 100000) (hF : F.length ≤ 100000) (ht : TreeAt w base g b now F) (hg : EnvM w) :
    Calls Tryz.prog 68 #[.pointer (some ⟨g, 0, none⟩), .slice A l.length c] w (RetErr w (chkT now F l)) := by
  have HT := Lib.hid ht
  have HG := Lib.hid hg
  have HRR := Lib.hid hr
  have HLR := Lib.hid hlr
  have HGD := Lib.hid hgood
  have hmm := @run_makeMap Tryz.prog
  obtain ⟨j0, hj0, hjz0, hjz1, hjz2⟩ := info_parts infoTxt
  clear ht hg hr hlr hgood
  go_enter Tryz.func68, Tryz.ntmps68
  have hms0 := mapAs_new w Tryz.prog 9
  have HM0 := Lib.hid hms0
  have hbm := below_one w (.map #[] 0)
  have HBM := Lib.hid hbm
  clear hms0 hbm
  go_wp2_with fail
  go_loopw [6, 7, 25] (fun av nv i wr => ∃ (k n : Nat) (after : List ByteArray) (ms : Lit → Option Value), k ≤ l.length ∧ i = .int .i64 k ∧ nv = .int .i64 n ∧ Below w.heap.size w wr ∧ MapAs wr Tryz.prog 9 w.heap.size k ms ∧ SeenIs ms ((l.take k).map (·.1)) ∧
      wr.ownsRow w.heap.size 9 1 av after.length (strs after) ∧ n ≤ k * 300000 ∧ after.length ≤ k ∧ (∀ p ∈ after, p.size ≤ 140737488351232) ∧ chkGo (thereB F now) 0 [] [] 0 l = chkGo (thereB F now) k ((l.take k).map (·.1)) after n (l.drop k)) (fun _ _ i _ => l.length - (intOf i).toNat)
  case atStart => exact ⟨0, 0, [], _, by omega, rfl, rfl, HBM.out, HM0.out, seen_none, ⟨rfl, .inl ⟨rfl, rfl⟩⟩, by omega, by simp, (fun p hp => by cases hp), rfl⟩
  case round =>
    obtain ⟨k, n, after, ms, hk, rfl, rfl, hbr, hms, hsn, hoa, hnk, hak, haz, hgo⟩ := hrel
    have HBR := Lib.hid hbr
    have HMS := Lib.hid hms
    have HSN := Lib.hid hsn
    have HOA := Lib.hid hoa
    have HAZ := Lib.hid haz
    have HGO := Lib.hid hgo
    have hszr := hbr.size
    have hmlt := hms.lt
    clear hbr hms hsn hoa haz hgo
    by_cases hlt : k < l.length
    · obtain ⟨bb, off, A1, c1, rfl, x1, x2, x3, x4, x5, x6⟩ := HLR.out k hlt
      obtain ⟨ch, hch⟩ : ∃ ch, ch = l[k] := ⟨_, rfl⟩
      have hgc := HGD.out ch (hch ▸ List.getElem_mem hlt)
      have hdrop : l.drop k = ch :: l.drop (k + 1) := by rw [hch]; exact List.drop_eq_getElem_cons hlt
      have htake : (l.take (k + 1)).map (·.1) = (l.take k).map (·.1) ++ [ch.1] := by rw [List.take_succ_eq_append_getElem hlt, List.map_append, hch]; rfl
      rw [← hch] at x1 x2 x3 x4 x5 x6
      obtain ⟨p, d, gn⟩ := ch
      obtain ⟨hps, hdw, hdl⟩ := hgc
      replace x1 := cell_below HBR.out x1
      replace x2 := cell_below HBR.out x2
      replace x3 := cell_below HBR.out x3
      simp only at x1 x2 x3 hps hdw hdl htake x4
      have hgo2 := HGO.out
      rw [hdrop] at hgo2
      have HGO2 := Lib.hid hgo2
      have HTK := Lib.hid htake
      obtain ⟨seen, hseen⟩ : ∃ seen, seen = (l.take k).map (·.1) := ⟨_, rfl⟩
      have HSE := Lib.hid hseen
      have hbo := below_one wr (.cells #[.string p, .slice A1 d.length c1, .bool gn] 66)
      have HBO := Lib.hid (below_from HBR.out hbo)
      have HOB : Hid ((wr.alloc (.cells #[.string p, .slice A1 d.length c1, .bool gn] 66)).heap[wr.heap.size]? = some (.cells #[.string p, .slice A1 d.length c1, .bool gn] 66 (0, 0))) := Lib.hid (heap_alloc_new wr _)
      have hszo := HBO.out.size
      have hpm : p.size ≤ maxLen := by unfold maxLen; omega
      clear hgo2 hdrop htake hdw hseen x5 x6 hch hbo HGO
      cases hcb : checkB p with
      | some q =>
        have HR : Hid (chkT now F l = .fault k 90) := Lib.hid (chkT_bad (HGO2.out.trans (chk_bad (by simp [hcb]))))
        have HCB := Lib.hid hcb
        clear hcb
        go_wp2_with fail
        refine (check_bad p q _ hps (HG.out.below HBO.out) HCB.out).mono ?_
        rintro e w2 ⟨fb, rfl, hf2, hb2⟩
        go_wp2_with fail
        go_ret
        exact retErr_new HR.out (below_from HBO.out hb2)
      | none =>
        have HCB := Lib.hid hcb
        have hlook : Hid (∀ W, Below wr.heap.size wr W → (Instr.lookup 185 (.map (some w.heap.size)) (.string p) false).run Tryz.prog W = .ok (.bool (memB p seen)) W) := Lib.hid (fun W hW => by
          have := (HMS.out.below hW).look strKeyed Tryz.underlying185 (zeroBool W) (key := .string p) (keyOf_string_mk Tryz.underlying9 hpm)
          rw [this]
          have h2 := HSN.out.look p
          rw [← HSE.out] at h2
          exact congrArg (fun v => Result.ok v W) h2)
        cases hmb : memB p seen with
        | true =>
          have HR : Hid (chkT now F l = .fault k 5) := Lib.hid (chkT_bad (HGO2.out.trans (chk_bad (by rw [← HSE.out]; simp [hcb, hmb]))))
          have HMB := Lib.hid hmb
          clear hcb hmb
          go_wp2_with fail
          refine (check_ok p _ hps (HG.out.below HBO.out) HCB.out).mono ?_
          rintro e w2 ⟨rfl, hb2⟩
          have y1 : w2.cell? ⟨wr.heap.size, 0, none⟩ = some (.string p) := cell_below hb2 (by simp)
          have e1 := hlook.out w2 (below_from (below_one wr _) hb2)
          rw [HMB.out] at e1
          go_wp2_with fail
          go_ret
          exact retErr_new HR.out (below_from HBO.out hb2)
        | false =>
          have HMB := Lib.hid hmb
          cases gn with
          | true =>
            by_cases hd0 : 0 < d.length
            · have dd : decide ((0 : Int) < (d.length : Int)) = true := decide_eq_true (by omega)
              have HR : Hid (chkT now F l = .fault k 31) := Lib.hid (chkT_bad (HGO2.out.trans (chk_bad (by rw [← HSE.out]; simp [hcb, hmb, hd0]))))
              clear hcb hmb
              go_wp2_with fail
              refine (check_ok p _ hps (HG.out.below HBO.out) HCB.out).mono ?_
              rintro e w2 ⟨rfl, hb2⟩
              have hbw2 := below_from (below_one wr (.cells #[.string p, .slice A1 d.length c1, .bool true] 66)) hb2
              have HOB2 : Hid (w2.heap[wr.heap.size]? = some (.cells #[.string p, .slice A1 d.length c1, .bool true] 66 (0, 0))) := Lib.hid (block_below HOB.out hb2)
              have y1 : w2.cell? ⟨wr.heap.size, 0, none⟩ = some (.string p) := by simp [World.cell?, HOB2.out]
              have y2 : w2.cell? ⟨wr.heap.size, 1, none⟩ = some (.slice A1 d.length c1) := by simp [World.cell?, HOB2.out]
              have y3 : w2.cell? ⟨wr.heap.size, 2, none⟩ = some (.bool true) := by simp [World.cell?, HOB2.out]
              have e1 := hlook.out w2 hbw2
              rw [HMB.out] at e1
              have HB2 := Lib.hid (below_from HBR.out hbw2)
              have hm2 := HMS.out.below hbw2
              go_wp2_with fail
              go_ret
              exact retErr_new HR.out HB2.out
            · have dd : decide ((0 : Int) < (d.length : Int)) = false := decide_eq_false (by omega)
              cases hth : thereB F now p with
              | false =>
                have HR : Hid (chkT now F l = .fault k 4) := Lib.hid (chkT_bad (HGO2.out.trans (chk_bad (by rw [← HSE.out]; simp [hcb, hmb, hd0, hth]))))
                have HTH := Lib.hid hth
                clear hcb hmb hth
                go_wp2_with fail
                refine (check_ok p _ hps (HG.out.below HBO.out) HCB.out).mono ?_
                rintro e w2 ⟨rfl, hb2⟩
                have hbw2 := below_from (below_one wr (.cells #[.string p, .slice A1 d.length c1, .bool true] 66)) hb2
                have HOB2 : Hid (w2.heap[wr.heap.size]? = some (.cells #[.string p, .slice A1 d.length c1, .bool true] 66 (0, 0))) := Lib.hid (block_below HOB.out hb2)
                have y1 : w2.cell? ⟨wr.heap.size, 0, none⟩ = some (.string p) := by simp [World.cell?, HOB2.out]
                have y2 : w2.cell? ⟨wr.heap.size, 1, none⟩ = some (.slice A1 d.length c1) := by simp [World.cell?, HOB2.out]
                have y3 : w2.cell? ⟨wr.heap.size, 2, none⟩ = some (.bool true) := by simp [World.cell?, HOB2.out]
                have e1 := hlook.out w2 hbw2
                rw [HMB.out] at e1
                have HB2 := Lib.hid (below_from HBR.out hbw2)
                have hm2 := HMS.out.below hbw2
                obtain ⟨w3, hrun3, hm3, hg3⟩ := hm2.store strKeyed Tryz.underlying185 (by unfold maxLen; omega) (key := .string p) (.bool true) (keyOf_string_mk Tryz.underlying9 hpm)
                obtain ⟨es2, ck2, hmb2⟩ := hm2.isMap
                have hsz2 := HB2.out.size
                have HB3 := Lib.hid (HB2.out.grown hg3 hsz2 (fun j hj => by cases hj; exact Nat.le_refl _))
                have HOA3 := Lib.hid (own_mapped (own_stay HOA.out hbw2) hmb2 hg3)
                have HOB3 : Hid (w3.heap[wr.heap.size]? = some (.cells #[.string p, .slice A1 d.length c1, .bool true] 66 (0, 0))) := Lib.hid ((hg3.block _ (lt_of_block HOB2.out) (fun e => by injection e; omega)).trans HOB2.out)
                have z1 : w3.cell? ⟨wr.heap.size, 0, none⟩ = some (.string p) := by simp [World.cell?, HOB3.out]
                have z2 : w3.cell? ⟨wr.heap.size, 1, none⟩ = some (.slice A1 d.length c1) := by simp [World.cell?, HOB3.out]
                have z3 : w3.cell? ⟨wr.heap.size, 2, none⟩ = some (.bool true) := by simp [World.cell?, HOB3.out]
                obtain ⟨tc0, tc1⟩ := tree_cells (HT.out.below HB3.out)
                obtain ⟨u, hu⟩ := there_at (F := F) (v := now) (p := p)
                have HSN3 : Hid (SeenIs (upd ms (keyS p) (.bool true)) ((l.take (k + 1)).map (·.1))) := Lib.hid (HTK.out ▸ HSN.out.put p)
                have HM3 := Lib.hid hm3
                have HAT := Lib.hid (fun W (hW : Below w3.heap.size w3 W) => at_any g b now now p F W hpm HRR.out ((HT.out.below HB3.out).below hW))
                have HU := Lib.hid hu
                have hsz3 := HB3.out.size
                clear hm2 hm3 hg3 hmb2 hbw2 hb2 hu tc1
                have cM : ∀ dd os, Calls Tryz.prog 65 #[.pointer (some ⟨g, 0, none⟩), .int .i64 now, .string p] (grow (redrawn w3 dd) os) fun e w'' => e = .returned (.tuple #[u, .bool false]) ∧ ∃ q : Regrown, w'' = grow (redrawn w3 q.d) q.os := fun dd os => Calls.regrown_of ((HU.out.trans (by rw [HTH.out])) ▸ HAT.out _ (below_regrown w3 dd os))
                have k1 := cell_regrown tc0
                have k2 := cell_regrown z1
                go_wp2_with fail
                refine wp_region_quiet_below (by kernel_rfl) (by kernel_rfl) ?_
                repeat (quiet_step (exact cM _ _))
                refine wpQuiet_nil ?_
                intro _ hw'
                obtain ⟨⟨dq, osq⟩, hw''⟩ := hw'
                subst hw''
                have hb5 := below_regrown w3 dq osq
                clear cM k1 k2
                generalize grow (redrawn w3 dq) osq = w5 at *
                have HB5 := Lib.hid (below_from HB3.out hb5)
                have HOA5 := Lib.hid (own_stay HOA3.out hb5)
                have HM5 := Lib.hid (HM3.out.below hb5)
                have HOB5 := Lib.hid (block_below HOB3.out hb5)
                have v1 := cell_below hb5 z1
                have v2 := cell_below hb5 z2
                have v3 := cell_below hb5 z3
                clear z1 z2 z3 tc0 hb5
                go_wp2_with fail
                go_ret
                exact retErr_new HR.out HB5.out
              | true =>
                have HON : Hid (chkGo (thereB F now) 0 [] [] 0 l = chkGo (thereB F now) (k + 1) ((l.take (k + 1)).map (·.1)) after n (l.drop (k + 1))) := Lib.hid (HGO2.out.trans (by
                  rw [HTK.out, ← HSE.out]
                  exact (chk_on hcb hmb (by show (true && decide (0 < d.length)) = false; rw [decide_eq_false hd0]; rfl) (by simp [hth])).trans rfl))
                have HTH := Lib.hid hth
                clear hcb hmb hth
                go_wp2_with fail
                refine (check_ok p _ hps (HG.out.below HBO.out) HCB.out).mono ?_
                rintro e w2 ⟨rfl, hb2⟩
                have hbw2 := below_from (below_one wr (.cells #[.string p, .slice A1 d.length c1, .bool true] 66)) hb2
                have HOB2 : Hid (w2.heap[wr.heap.size]? = some (.cells #[.string p, .slice A1 d.length c1, .bool true] 66 (0, 0))) := Lib.hid (block_below HOB.out hb2)
                have y1 : w2.cell? ⟨wr.heap.size, 0, none⟩ = some (.string p) := by simp [World.cell?, HOB2.out]
                have y2 : w2.cell? ⟨wr.heap.size, 1, none⟩ = some (.slice A1 d.length c1) := by simp [World.cell?, HOB2.out]
                have y3 : w2.cell? ⟨wr.heap.size, 2, none⟩ = some (.bool true) := by simp [World.cell?, HOB2.out]
                have e1 := hlook.out w2 hbw2
                rw [HMB.out] at e1
                have HB2 := Lib.hid (below_from HBR.out hbw2)
                have hm2 := HMS.out.below hbw2
                obtain ⟨w3, hrun3, hm3, hg3⟩ := hm2.store strKeyed Tryz.underlying185 (by unfold maxLen; omega) (key := .string p) (.bool true) (keyOf_string_mk Tryz.underlying9 hpm)
                obtain ⟨es2, ck2, hmb2⟩ := hm2.isMap
                have hsz2 := HB2.out.size
                have HB3 := Lib.hid (HB2.out.grown hg3 hsz2 (fun j hj => by cases hj; exact Nat.le_refl _))
                have HOA3 := Lib.hid (own_mapped (own_stay HOA.out hbw2) hmb2 hg3)
                have HOB3 : Hid (w3.heap[wr.heap.size]? = some (.cells #[.string p, .slice A1 d.length c1, .bool true] 66 (0, 0))) := Lib.hid ((hg3.block _ (lt_of_block HOB2.out) (fun e => by injection e; omega)).trans HOB2.out)
                have z1 : w3.cell? ⟨wr.heap.size, 0, none⟩ = some (.string p) := by simp [World.cell?, HOB3.out]
                have z2 : w3.cell? ⟨wr.heap.size, 1, none⟩ = some (.slice A1 d.length c1) := by simp [World.cell?, HOB3.out]
                have z3 : w3.cell? ⟨wr.heap.size, 2, none⟩ = some (.bool true) := by simp [World.cell?, HOB3.out]
                obtain ⟨tc0, tc1⟩ := tree_cells (HT.out.below HB3.out)
                obtain ⟨u, hu⟩ := there_at (F := F) (v := now) (p := p)
                have HSN3 : Hid (SeenIs (upd ms (keyS p) (.bool true)) ((l.take (k + 1)).map (·.1))) := Lib.hid (HTK.out ▸ HSN.out.put p)
                have HM3 := Lib.hid hm3
                have HAT := Lib.hid (fun W (hW : Below w3.heap.size w3 W) => at_any g b now now p F W hpm HRR.out ((HT.out.below HB3.out).below hW))
                have HU := Lib.hid hu
                have hsz3 := HB3.out.size
                clear hm2 hm3 hg3 hmb2 hbw2 hb2 hu tc1
                have cM : ∀ dd os, Calls Tryz.prog 65 #[.pointer (some ⟨g, 0, none⟩), .int .i64 now, .string p] (grow (redrawn w3 dd) os) fun e w'' => e = .returned (.tuple #[u, .bool true]) ∧ ∃ q : Regrown, w'' = grow (redrawn w3 q.d) q.os := fun dd os => Calls.regrown_of ((HU.out.trans (by rw [HTH.out])) ▸ HAT.out _ (below_regrown w3 dd os))
                have k1 := cell_regrown tc0
                have k2 := cell_regrown z1
                go_wp2_with fail
                refine wp_region_quiet_below (by kernel_rfl) (by kernel_rfl) ?_
                repeat (quiet_step (exact cM _ _))
                refine wpQuiet_nil ?_
                intro _ hw'
                obtain ⟨⟨dq, osq⟩, hw''⟩ := hw'
                subst hw''
                have hb5 := below_regrown w3 dq osq
                clear cM k1 k2
                generalize grow (redrawn w3 dq) osq = w5 at *
                have HB5 := Lib.hid (below_from HB3.out hb5)
                have HOA5 := Lib.hid (own_stay HOA3.out hb5)
                have HM5 := Lib.hid (HM3.out.below hb5)
                have HOB5 := Lib.hid (block_below HOB3.out hb5)
                have v1 := cell_below hb5 z1
                have v2 := cell_below hb5 z2
                have v3 := cell_below hb5 z3
                clear z1 z2 z3 tc0 hb5
                go_wp2_with fail
                go_roundw
                case rel => exact ⟨k + 1, n, after, _, by omega, by go_num, rfl, HB5.out, HM5.out, HSN3.out, HOA5.out, Nat.le_trans hnk (Nat.mul_le_mul_right _ (Nat.le_succ k)), by omega, HAZ.out, HON.out⟩
                case measure => simp [intOf]; omega
          | false =>
            have HON : Hid (chkGo (thereB F now) 0 [] [] 0 l = chkGo (thereB F now) (k + 1) ((l.take (k + 1)).map (·.1)) (after ++ [p]) (n + d.length) (l.drop (k + 1))) := Lib.hid (HGO2.out.trans (by
              rw [HTK.out, ← HSE.out]
              exact (chk_on hcb hmb rfl rfl).trans rfl))
            obtain ⟨th, HTH⟩ : ∃ th, Hid (thereB F now p = th) := ⟨_, rfl⟩
            clear hcb hmb
            go_wp2_with fail
            refine (check_ok p _ hps (HG.out.below HBO.out) HCB.out).mono ?_
            rintro e w2 ⟨rfl, hb2⟩
            have hbw2 := below_from (below_one wr (.cells #[.string p, .slice A1 d.length c1, .bool false] 66)) hb2
            have HOB2 : Hid (w2.heap[wr.heap.size]? = some (.cells #[.string p, .slice A1 d.length c1, .bool false] 66 (0, 0))) := Lib.hid (block_below HOB.out hb2)
            have y1 : w2.cell? ⟨wr.heap.size, 0, none⟩ = some (.string p) := by simp [World.cell?, HOB2.out]
            have y2 : w2.cell? ⟨wr.heap.size, 1, none⟩ = some (.slice A1 d.length c1) := by simp [World.cell?, HOB2.out]
            have y3 : w2.cell? ⟨wr.heap.size, 2, none⟩ = some (.bool false) := by simp [World.cell?, HOB2.out]
            have e1 := hlook.out w2 hbw2
            rw [HMB.out] at e1
            have HB2 := Lib.hid (below_from HBR.out hbw2)
            have hm2 := HMS.out.below hbw2
            obtain ⟨w3, hrun3, hm3, hg3⟩ := hm2.store strKeyed Tryz.underlying185 (by unfold maxLen; omega) (key := .string p) (.bool true) (keyOf_string_mk Tryz.underlying9 hpm)
            obtain ⟨es2, ck2, hmb2⟩ := hm2.isMap
            have hsz2 := HB2.out.size
            have HB3 := Lib.hid (HB2.out.grown hg3 hsz2 (fun j hj => by cases hj; exact Nat.le_refl _))
            have HOA3 := Lib.hid (own_mapped (own_stay HOA.out hbw2) hmb2 hg3)
            have HOB3 : Hid (w3.heap[wr.heap.size]? = some (.cells #[.string p, .slice A1 d.length c1, .bool false] 66 (0, 0))) := Lib.hid ((hg3.block _ (lt_of_block HOB2.out) (fun e => by injection e; omega)).trans HOB2.out)
            have z1 : w3.cell? ⟨wr.heap.size, 0, none⟩ = some (.string p) := by simp [World.cell?, HOB3.out]
            have z2 : w3.cell? ⟨wr.heap.size, 1, none⟩ = some (.slice A1 d.length c1) := by simp [World.cell?, HOB3.out]
            have z3 : w3.cell? ⟨wr.heap.size, 2, none⟩ = some (.bool false) := by simp [World.cell?, HOB3.out]
            obtain ⟨tc0, tc1⟩ := tree_cells (HT.out.below HB3.out)
            obtain ⟨u, hu⟩ := there_at (F := F) (v := now) (p := p)
            have HSN3 : Hid (SeenIs (upd ms (keyS p) (.bool true)) ((l.take (k + 1)).map (·.1))) := Lib.hid (HTK.out ▸ HSN.out.put p)
            have HM3 := Lib.hid hm3
            have HAT := Lib.hid (fun W (hW : Below w3.heap.size w3 W) => at_any g b now now p F W hpm HRR.out ((HT.out.below HB3.out).below hW))
            have HU := Lib.hid hu
            have hsz3 := HB3.out.size
            clear hm2 hm3 hg3 hmb2 hbw2 hb2 hu tc1
            have cM : ∀ dd os, Calls Tryz.prog 65 #[.pointer (some ⟨g, 0, none⟩), .int .i64 now, .string p] (grow (redrawn w3 dd) os) fun e w'' => e = .returned (.tuple #[u, .bool th]) ∧ ∃ q : Regrown, w'' = grow (redrawn w3 q.d) q.os := fun dd os => Calls.regrown_of ((HU.out.trans (by rw [HTH.out])) ▸ HAT.out _ (below_regrown w3 dd os))
            have k1 := cell_regrown tc0
            have k2 := cell_regrown z1
            go_wp2_with fail
            refine wp_region_quiet_below (by kernel_rfl) (by kernel_rfl) ?_
            repeat (quiet_step (exact cM _ _))
            refine wpQuiet_nil ?_
            intro _ hw'
            obtain ⟨⟨dq, osq⟩, hw''⟩ := hw'
            subst hw''
            have hb5 := below_regrown w3 dq osq
            clear cM k1 k2
            generalize grow (redrawn w3 dq) osq = w5 at *
            have HB5 := Lib.hid (below_from HB3.out hb5)
            have HOA5 := Lib.hid (own_stay HOA3.out hb5)
            have HM5 := Lib.hid (HM3.out.below hb5)
            have HOB5 := Lib.hid (block_below HOB3.out hb5)
            have v1 := cell_below hb5 z1
            have v2 := cell_below hb5 z2
            have v3 := cell_below hb5 z3
            clear z1 z2 z3 tc0 hb5
            have HOW5 : Hid ((w5.alloc (.cells #[.string p] 9)).ownsRow w.heap.size 9 1 u6 after.length (strs after)) := own_stay HOA5.out (below_one _ _)
            have hsz5 := HB5.out.size
            have v2' := cell_below (below_one w5 (.cells #[.string p] 9)) v2
            go_wp2_with (at_builtin; go_loud (refine wpList_append_own _ rfl (.tmp 88) (.tmp 91) 24 rfl w.heap.size 9 j0 (.string ⟨#[]⟩) 1 16 Tryz.underlying24 hj0 hjz0 hjz1 hjz2 rfl (by decide) u6 after.length (strs after) (by simp [Act.eval, Act.put]) HOW5.out ⟨w5.heap.size, 0, none⟩ 1 1 [.string p] (by simp [Act.eval, Act.put]) rfl (cell_one_new _ _ _) (fun u hu => by (simp at hu; subst hu; rfl)) (by unfold maxLen; omega) (by omega) (by simp; omega) ?_); intro v9 w9 hown9 hg9 _; have HOB9 : Hid (w9.heap[wr.heap.size]? = some (.cells #[.string p, .slice A1 d.length c1, .bool false] 66 (0, 0))) := (Lib.hid (op_grown (block_below HOB5.out (below_one w5 (.cells #[.string p] 9))) HOW5.out (by decide) hg9)); have v9c : w9.cell? ⟨wr.heap.size, 1, none⟩ = some (.slice A1 d.length c1) := (by simp [World.cell?, HOB9.out]))
            have hnm : ∀ cs t fr, (w5.alloc (.cells #[.string p] 9)).heap[w.heap.size]? ≠ some (Obj.cells cs t fr) := by
              obtain ⟨es, ck, hmb⟩ := (HM5.out.below (below_one w5 (.cells #[.string p] 9))).isMap
              intro cs t fr e
              rw [hmb] at e
              cases e
            have HM9 := Lib.hid ((HM5.out.below (below_one w5 (.cells #[.string p] 9))).grown hg9 (ne_other HOW5.out hnm))
            have HB9 := Lib.hid ((below_from HB5.out (below_one w5 (.cells #[.string p] 9))).grown hg9 (by simp; omega) (fun j hj => (HOW5.out.lt j hj).1))
            have HO9 : Hid (w9.ownsRow w.heap.size 9 1 v9 (after ++ [p]).length (strs (after ++ [p]))) := Lib.hid (by simpa [strs] using hown9)
            have HAZ9 : Hid (∀ q ∈ after ++ [p], q.size ≤ 140737488351232) := Lib.hid (fun q hq => by
              rcases List.mem_append.1 hq with hq | hq
              · exact HAZ.out q hq
              · rw [List.mem_singleton.1 hq]; exact hps)
            clear hown9 hg9 hnm
            go_roundw
            case rel => exact ⟨k + 1, n + d.length, after ++ [p], _, by omega, by go_num, by go_num, HB9.out, HM9.out, HSN3.out, HO9.out, by omega, by simp; omega, HAZ9.out, HON.out⟩
            case measure => simp [intOf]; omega
    · obtain rfl : k = l.length := by omega
      obtain ⟨WB, rfl⟩ : ∃ WB, WB = wr := ⟨wr, rfl⟩
      have hnB : n ≤ 300000000 := Nat.le_trans hnk (by omega)
      clear hnk
      have hgo3 := HGO.out
      rw [List.drop_length, List.take_length] at hgo3
      have HCT : Hid (chkT now F l = endT now l.length (after ++ stayL F now (l.map (·.1))) (n + sumL (lenAt F now) (stayL F now (l.map (·.1))))) := Lib.hid (by rw [chkT, hgo3]; rfl)
      obtain ⟨seen, hseen⟩ : ∃ seen, seen = l.map (·.1) := ⟨_, rfl⟩
      have hsn2 := HSN.out
      rw [List.take_length, ← hseen] at hsn2
      have HSN2 := Lib.hid hsn2
      rw [← hseen] at HCT
      obtain ⟨tc0, tc1⟩ := tree_cells (HT.out.below HBR.out)
      obtain ⟨hle, hll, hlm⟩ := listT_now now F ⟨#[]⟩
      obtain ⟨L, hL⟩ : ∃ L, L = (listT now F now ⟨#[]⟩).1 := ⟨_, rfl⟩
      rw [← hL] at hll hlm
      have HSTAY : Hid (stayL F now seen = restJ L seen L.length) := Lib.hid (by rw [restJ, List.take_length, stayL, ← hL])
      have HLE := Lib.hid hle
      have HLM := Lib.hid hlm
      have HL := Lib.hid hL
      clear hgo3 hsn2 hseen tc1 hle hlm hL HGO HSN
      go_wp2_with fail
      refine (list_any g b now now ⟨#[]⟩ F _ (by decide) HRR.out hF (HT.out.below HBR.out)).mono ?_
      rintro e w4 ⟨lu, rfl, hlu, hb4⟩
      rw [HLE.out]
      rw [← HL.out] at hlu
      obtain ⟨AL, cL, rfl, hcL⟩ := ints_form hlu
      have HLU := Lib.hid hlu
      have HB4 := Lib.hid (below_from HBR.out hb4)
      have HM4 := Lib.hid (HMS.out.below hb4)
      have HO4 := Lib.hid (own_stay HOA.out hb4)
      have hne4 : (Value.slice AL L.length cL).ownBlock = none ∨ (Value.slice AL L.length cL).ownBlock ≠ u6.ownBlock := by
        cases hob : (Value.slice AL L.length cL).ownBlock with
        | none => exact .inl rfl
        | some kb =>
          refine .inr (fun e => ?_)
          have h1 := (hlu.lt kb hob).1
          have h2 := (HOA.out.lt kb e.symm).2
          omega
      clear hlu hb4 tc0
      go_wp2_with fail
      go_loopw [6, 7, 110] (fun av nv i wq => ∃ j : Nat, j ≤ L.length ∧ i = .int .i64 j ∧ nv = .int .i64 ((n + sumL (lenAt F now) (restJ L seen j) : Nat) : Int) ∧ Below w.heap.size w wq ∧ MapAs wq Tryz.prog 9 w.heap.size l.length ms ∧
          wq.ownsRow w.heap.size 9 1 av (after ++ restJ L seen j).length (strs (after ++ restJ L seen j)) ∧ wq.ownsRow WB.heap.size 9 1 (.slice AL L.length cL) L.length (strs L) ∧ ((Value.slice AL L.length cL).ownBlock = none ∨ (Value.slice AL L.length cL).ownBlock ≠ av.ownBlock)) (fun _ _ i _ => L.length - (intOf i).toNat)
      case atStart => exact ⟨0, by omega, rfl, by simp [restJ, sumL], HB4.out, HM4.out, by simpa [restJ] using HO4.out, HLU.out, hne4⟩
      case round =>
        obtain ⟨j, hj, rfl, rfl, hbj, hmj, hoj, hLj, hne⟩ := hrel
        have HBJ := Lib.hid hbj
        have HMJ := Lib.hid hmj
        have HOJ := Lib.hid hoj
        have HLJ := Lib.hid hLj
        have HNE := Lib.hid hne
        have hrl := restJ_len L seen j
        have hsum : sumL (lenAt F now) (restJ L seen j) ≤ 30000000000 := by
          refine Nat.le_trans (sumL_le (m := 300000) (fun p hp => ?_)) (by omega)
          have hp1 := (HLM.out p (List.mem_of_mem_take (List.mem_filter.1 hp).1)).2
          obtain ⟨r, hr, _⟩ := there_row hp1
          rw [lenAt, hr]
          exact (HT.out.data hr).2.2
        have hszj := hbj.size
        have hmltj := hmj.lt
        clear hbj hmj hoj hLj hne
        by_cases hjl : j < L.length
        · obtain ⟨Lb, rfl, cx⟩ := strs_cell HLJ.out hjl
          obtain ⟨p, hp⟩ : ∃ p, p = L[j] := ⟨_, rfl⟩
          rw [← hp] at cx
          have hpL : p ∈ L := hp ▸ List.getElem_mem hjl
          obtain ⟨hpF, hpT⟩ := HLM.out p hpL
          obtain ⟨r, hr, hrg⟩ := there_row hpT
          have hps : p.size ≤ 64 := by
            obtain ⟨f, hf, e⟩ := List.mem_map.1 hpF
            rw [← e]; exact (HT.out.files f hf).2.2.2
          have hpm : p.size ≤ maxLen := by unfold maxLen; omega
          have hlook : (Instr.lookup 185 (.map (some w.heap.size)) (.string p) false).run Tryz.prog wr = .ok (.bool (memB p seen)) wr := by
            have := HMJ.out.look strKeyed Tryz.underlying185 (zeroBool wr) (key := .string p) (keyOf_string_mk Tryz.underlying9 hpm)
            rw [this]
            exact congrArg (fun v => Result.ok v wr) (HSN2.out.look p)
          cases hmb : memB p seen with
          | true =>
            rw [hmb] at hlook
            have HRJ := Lib.hid (restJ_no hjl (by rw [← hp]; exact hmb))
            clear hmb hp hr hrg
            go_wp2_with fail
            go_roundw
            case rel => exact ⟨j + 1, by omega, by go_num, by rw [HRJ.out], HBJ.out, HMJ.out, by rw [HRJ.out]; exact HOJ.out, HLJ.out, HNE.out⟩
            case measure => simp [intOf]; omega
          | false =>
            rw [hmb] at hlook
            have hrj : restJ L seen (j + 1) = restJ L seen j ++ [p] := by rw [restJ_yes hjl (by rw [← hp]; exact hmb), ← hp]
            have hsj : n + sumL (lenAt F now) (restJ L seen (j + 1)) = n + sumL (lenAt F now) (restJ L seen j) + r.data.length := by
              have e1 : lenAt F now p = r.data.length := by rw [lenAt, hr]
              rw [hrj, sumL_snoc, e1]; omega
            have hdl := (HT.out.data hr).2.2
            obtain ⟨DA, dc, hdv, _, _, _⟩ := own_bytes (HT.out.data hr).1
            have hatv : atV (atRow F now p) = .tuple #[.slice DA r.data.length dc, .bool true] := by rw [hr]; show Value.tuple #[r.val, .bool (!r.gone)] = _; rw [hdv, hrg]; rfl
            have HATV := Lib.hid hatv
            have HRJ := Lib.hid hrj
            have HSJ := Lib.hid hsj
            obtain ⟨tc0, tc1⟩ := tree_cells (HT.out.below HBJ.out)
            have HAT := Lib.hid (at_any g b now now p F wr hpm HRR.out (HT.out.below HBJ.out))
            obtain ⟨sm, hsm⟩ : ∃ sm : Nat, sm = n + sumL (lenAt F now) (restJ L seen j) := ⟨_, rfl⟩
            rw [← hsm]
            have hsmB : sm ≤ 30300000000 := by omega
            have HSM := Lib.hid hsm
            clear hmb hp hr hrg hrj hsj hatv tc1 hsm hdv hsum
            go_wp2_with fail
            refine HAT.out.mono ?_
            rw [HATV.out]
            rintro e w5 ⟨rfl, hb5⟩
            have HB5 := Lib.hid (below_from HBJ.out hb5)
            have HM5 := Lib.hid (HMJ.out.below hb5)
            have HL5 := Lib.hid (own_stay HLJ.out hb5)
            have HOW5 : Hid ((w5.alloc (.cells #[.string p] 9)).ownsRow w.heap.size 9 1 u6 (after ++ restJ L seen j).length (strs (after ++ restJ L seen j))) := own_stay (own_stay HOJ.out hb5) (below_one _ _)
            have hsz5 := HB5.out.size
            have hal : (after ++ restJ L seen j).length ≤ 101000 := by simp; omega
            clear hb5 tc0
            go_wp2_with (at_builtin; go_loud (refine wpList_append_own_at _ rfl (.tmp 128) (.tmp 130) 24 rfl w.heap.size 9 j0 (.string ⟨#[]⟩) 1 16 Tryz.underlying24 hj0 hjz0 hjz1 hjz2 rfl (by decide) u6 (after ++ restJ L seen j).length (strs (after ++ restJ L seen j)) (by simp [Act.eval, Act.put]) HOW5.out ⟨w5.heap.size, 0, none⟩ 1 1 [.string p] (by simp [Act.eval, Act.put]) rfl (cell_one_new _ _ _) (fun u hu => by (simp at hu; subst hu; rfl)) (by unfold maxLen; omega) (by omega) (by simp; omega) ?_); intro v9 w9 hown9 hg9 _ hloc9)
            have hnm : ∀ cs t fr, (w5.alloc (.cells #[.string p] 9)).heap[w.heap.size]? ≠ some (Obj.cells cs t fr) := by
              obtain ⟨es, ck, hmb⟩ := (HM5.out.below (below_one w5 (.cells #[.string p] 9))).isMap
              intro cs t fr e
              rw [hmb] at e
              cases e
            have HM9 := Lib.hid ((HM5.out.below (below_one w5 (.cells #[.string p] 9))).grown hg9 (ne_other HOW5.out hnm))
            have HB9 := Lib.hid ((below_from HB5.out (below_one w5 (.cells #[.string p] 9))).grown hg9 (by simp; omega) (fun j hj => (HOW5.out.lt j hj).1))
            have HO9 : Hid (w9.ownsRow w.heap.size 9 1 v9 (after ++ restJ L seen (j + 1)).length (strs (after ++ restJ L seen (j + 1)))) := Lib.hid (by
              rw [HRJ.out, ← List.append_assoc]
              have e1 : (after ++ restJ L seen j ++ [p]).length = (after ++ restJ L seen j).length + 1 := by rw [List.length_append, List.length_singleton]
              have e2 : strs (after ++ restJ L seen j ++ [p]) = strs (after ++ restJ L seen j) ++ [.string p] := by simp [strs]
              rw [e1, e2]
              exact hown9)
            have hL6 := own_stay HL5.out (below_one w5 (.cells #[.string p] 9))
            have HL9 := Lib.hid (hL6.kept hg9 HNE.out)
            have HNE9 : Hid ((Value.slice (some ⟨Lb, 0, none⟩) L.length cL).ownBlock = none ∨ (Value.slice (some ⟨Lb, 0, none⟩) L.length cL).ownBlock ≠ v9.ownBlock) := Lib.hid (by
              rcases hloc9 with h | h
              · rw [h]; exact HNE.out
              · refine .inr (fun e => ?_)
                rw [h] at e
                have h2 := (HL5.out.lt _ e).2
                simp at h2
                omega)
            clear hown9 hg9 hnm hL6 hloc9
            go_roundw
            case rel => exact ⟨j + 1, by omega, by go_num, by rw [HSJ.out, ← HSM.out]; go_num, HB9.out, HM9.out, HO9.out, HL9.out, HNE9.out⟩
            case measure => simp [intOf]; omega
        · obtain rfl : j = L.length := by omega
          obtain ⟨W8, rfl⟩ : ∃ W8, W8 = wr := ⟨wr, rfl⟩
          obtain ⟨af, haf⟩ : ∃ af, af = after ++ restJ L seen L.length := ⟨_, rfl⟩
          obtain ⟨sm, hsm⟩ : ∃ sm : Nat, sm = n + sumL (lenAt F now) (restJ L seen L.length) := ⟨_, rfl⟩
          have HCT2 : Hid (chkT now F l = endT now l.length af sm) := Lib.hid (by rw [HCT.out, HSTAY.out, haf, hsm])
          have HAFZ : Hid (∀ q ∈ af, q.size ≤ 140737488351232) := Lib.hid (fun q hq => by
            rw [haf] at hq
            rcases List.mem_append.1 hq with hq | hq
            · exact HAZ.out q hq
            · obtain ⟨hpF, _⟩ := HLM.out q (List.mem_of_mem_take (List.mem_filter.1 hq).1)
              obtain ⟨f, hf, e⟩ := List.mem_map.1 hpF
              have := (HT.out.files f hf).2.2.2
              rw [← e]; omega)
          have hafl : af.length ≤ 101000 := by rw [haf]; simp; omega
          have hO8 := HOJ.out
          rw [← haf] at hO8
          rw [← hsm]
          have hsmB : sm ≤ 30300000000 := by omega
          obtain ⟨AA, cA, rfl, hcA⟩ := ints_form hO8
          have HO8 := Lib.hid hO8
          obtain ⟨tc0, tc1⟩ := tree_cells (HT.out.below HBJ.out)
          have HTC0 := Lib.hid tc0
          clear hO8 haf hsm hsum tc0 tc1
          go_wp2_with fail
          go_loopw [139] (fun i wq => ∃ i' : Nat, i' ≤ af.length ∧ i = .int .i64 i' ∧ Below W8.heap.size W8 wq ∧ ∀ x (hx : x < af.length) y (hy : y < x), x < i' → clashB af[x] (af[y]'(by omega)) = false) (fun i _ => af.length - (intOf i).toNat)
          case atStart => exact ⟨0, by omega, rfl, Below.refl _ _, fun x hx y hy h => by omega⟩
          case round =>
            obtain ⟨i, hi, rfl, hbq, hno⟩ := hrel
            have HBQ := Lib.hid hbq
            have HNO := Lib.hid hno
            clear hbq hno
            by_cases hil : i < af.length
            · obtain ⟨ob, rfl, cA'⟩ := strs_cell HO8.out hil
              replace cA' := cell_below HBQ.out cA'
              obtain ⟨p, hp⟩ : ∃ p, p = af[i] := ⟨_, rfl⟩
              rw [← hp] at cA'
              have hpz := HAFZ.out p (hp ▸ List.getElem_mem hil)
              have HP := Lib.hid hp
              have hic : (i : Int) ≤ (cA : Int) := by omega
              clear hp
              go_wp2_with fail
              go_loopw [148] (fun j wz => ∃ j' : Nat, j' ≤ i ∧ j = .int .i64 j' ∧ Below W8.heap.size W8 wz ∧ ∀ y (hy : y < i), y < j' → clashB p (af[y]'(by omega)) = false) (fun j _ => i - (intOf j).toNat)
              case atStart => exact ⟨0, by omega, rfl, HBQ.out, fun y hy h => by omega⟩
              case round =>
                obtain ⟨j', hj', rfl, hbz, hno2⟩ := hrel
                have HBZ := Lib.hid hbz
                have HN2 := Lib.hid hno2
                clear hbz hno2
                by_cases hjl' : j' < i
                · obtain ⟨ob', hob', cB⟩ := strs_cell HO8.out (show j' < af.length by omega)
                  have hoe : ob = ob' := by injection hob' with h; injection h
                  subst hoe
                  replace cB := cell_below HBZ.out cB
                  obtain ⟨q, hq⟩ : ∃ q, q = af[j'] := ⟨_, rfl⟩
                  rw [← hq] at cB
                  have hqz := HAFZ.out q (hq ▸ List.getElem_mem _)
                  have HQ := Lib.hid hq
                  have HCL := Lib.hid (fun W => clash_any p q W hpz hqz)
                  clear hq
                  cases hc : clashB p q with
                  | true =>
                    have HR : Hid (chkT now F l = .fault l.length 90) := Lib.hid (HCT2.out.trans (endT_clash (clash_row hil hjl' (by rw [← HP.out, ← HQ.out]; exact hc))))
                    have HCC := Lib.hid hc
                    clear hc
                    go_wp2_with fail
                    refine (HCL.out _).mono ?_
                    rw [HCC.out]
                    rintro e w9 ⟨rfl, h9⟩
                    replace h9 := h9.symm
                    subst h9
                    go_wp2_with fail
                    go_ret
                    exact retErr_new HR.out (HBJ.out.trans (HBZ.out.mono hszj))
                  | false =>
                    have HCC := Lib.hid hc
                    clear hc
                    go_wp2_with fail
                    refine (HCL.out _).mono ?_
                    rw [HCC.out]
                    rintro e w9 ⟨rfl, h9⟩
                    replace h9 := h9.symm
                    subst h9
                    go_wp2_with fail
                    go_roundw
                    case rel => exact ⟨j' + 1, by omega, by go_num, HBZ.out, fun y hy h => by
                      by_cases e : y = j'
                      · subst e; rw [← HQ.out]; exact HCC.out
                      · exact HN2.out y hy (by omega)⟩
                    case measure => simp [intOf]; omega
                · obtain rfl : j' = i := by omega
                  go_wp2_with fail
                  go_roundw
                  case rel => exact ⟨j' + 1, by omega, by go_num, HBZ.out, fun x hx y hy h => by
                    by_cases e : x = j'
                    · subst e; rw [← HP.out]; exact HN2.out y hy hy
                    · exact HNO.out x hx y hy (by omega)⟩
                  case measure => simp [intOf]; omega
            · have HCL : Hid (clashL af = false) := Lib.hid (clash_none (fun x hx y hy => HNO.out x hx y hy (by omega)))
              obtain rfl : i = af.length := by omega
              have hc0 := cell_below HBQ.out HTC0.out
              by_cases h1 : 64 < af.length
              · have d1 : decide ((64 : Int) < (af.length : Int)) = true := decide_eq_true (by omega)
                have HR : Hid (chkT now F l = .fault l.length 3) := Lib.hid (HCT2.out.trans (endT_full HCL.out (.inl h1)))
                go_wp2_with fail
                go_ret
                exact retErr_new HR.out (HBJ.out.trans (HBQ.out.mono hszj))
              · have d1 : decide ((64 : Int) < (af.length : Int)) = false := decide_eq_false (by omega)
                by_cases h2 : 262144 < sm
                · have d2 : decide ((262144 : Int) < (sm : Int)) = true := decide_eq_true (by omega)
                  have HR : Hid (chkT now F l = .fault l.length 3) := Lib.hid (HCT2.out.trans (endT_full HCL.out (.inr (.inl h2))))
                  go_wp2_with fail
                  go_ret
                  exact retErr_new HR.out (HBJ.out.trans (HBQ.out.mono hszj))
                · have d2 : decide ((262144 : Int) < (sm : Int)) = false := decide_eq_false (by omega)
                  by_cases h3 : now = 1048576
                  · have d3 : ((now : Int) == 1048576) = true := by rw [h3]; rfl
                    have HR : Hid (chkT now F l = .fault l.length 3) := Lib.hid (HCT2.out.trans (endT_full HCL.out (.inr (.inr h3))))
                    go_wp2_with fail
                    go_ret
                    exact retErr_new HR.out (HBJ.out.trans (HBQ.out.mono hszj))
                  · have d3 : ((now : Int) == 1048576) = false := beq_eq_false_iff_ne.2 (by omega)
                    have hn3 : ¬ ((now : Int) = 1048576) := by omega
                    have HR : Hid (chkT now F l = .nil) := Lib.hid (HCT2.out.trans (endT_ok HCL.out (by omega)))
                    go_wp2_with fail
                    all_goals first
                      | (exfalso; omega)
                      | skip
                    go_ret
                    exact ⟨_, rfl, by rw [HR.out]; rfl, HBJ.out.trans (HBQ.out.mono hszj)⟩
end Go.Proofs.YtlidenehfmlebaaGreatDoor
