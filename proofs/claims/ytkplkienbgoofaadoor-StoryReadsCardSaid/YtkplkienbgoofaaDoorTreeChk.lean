/-
  (*Tree).Check: can changes be made?
-/
import Derived.Test.YtkplkienbgoofaaDoorTreeList
import Derived.Test.YtkplkienbgoofaaDoorPathAny
import Derived.Deep.CutRange
import Derived.Maps.AppendAt
import Derived.Lib.QuietBelow
set_option linter.unusedVariables false
set_option linter.unusedSimpArgs false
namespace Go.Proofs.YtkplkienbgoofaaDoor
open Go.RowKit Go.Maps Go.WideMaps
open Go.Sort (grow)
open Go.Proofs.YtkplkienbgoofaaDoorW.PrintWords (Kd ReadsRow)
/-- A change: its path, its data, and whether it takes the file out. -/
abbrev ChgD := ByteArray × List Int × Bool
def kChg : Kd ChgD := Kd.pair Kd.string (Kd.pair (Kd.slice 5 (Kd.int .u8)) Kd.bool)
def GoodC (c : ChgD) : Prop := c.1.size ≤ 140737488351232 ∧ (∀ x ∈ c.2.1, (Lit.int .u8 x).wf = true) ∧ c.2.1.length ≤ 300000
/-- Changes that are read. -/
def ChgRow (w : World) (A : Option Addr) (l : List ChgD) : Prop := ∀ k (h : k < l.length), ∃ b off A' c', A = some ⟨b, off, none⟩ ∧ w.cell? ⟨b, off + k * 3, none⟩ = some (.string l[k].1) ∧ w.cell? ⟨b, off + k * 3 + 1, none⟩ = some (.slice A' l[k].2.1.length c') ∧
  w.cell? ⟨b, off + k * 3 + 2, none⟩ = some (.bool l[k].2.2) ∧ l[k].2.1.length ≤ c' ∧ ByteRow w A' l[k].2.1 ∧ (A' = none → l[k].2.1.length = 0)
theorem ChgRow.below {w w' : World} {A : Option Addr} {l : List ChgD} (h : ChgRow w A l) (hb : Below w.heap.size w w') : ChgRow w' A l := fun k hk => by
  obtain ⟨b, off, A', c', h0, h1, h2, h3, h4, h5, h6⟩ := h k hk
  exact ⟨b, off, A', c', h0, cell_below hb h1, cell_below hb h2, cell_below hb h3, h4, h5.below hb, h6⟩
def memB (p : ByteArray) (l : List ByteArray) : Bool := l.any fun q => decide (q = p)
theorem memB_snoc (p q : ByteArray) (l : List ByteArray) : memB p (l ++ [q]) = (memB p l || decide (q = p)) := by simp [memB]
inductive ChkR where
  | bad (i : Nat) (c : Int)
  | ok (after : List ByteArray) (n : Nat)
def chkGo (T : ByteArray → Bool) : Nat → List ByteArray → List ByteArray → Nat → List ChgD → ChkR
  | _, _, after, n, [] => .ok after n
  | i, seen, after, n, c :: r =>
    if (checkB c.1).isSome then .bad i 90 else if memB c.1 seen then .bad i 5 else if c.2.2 && decide (0 < c.2.1.length) then .bad i 31 else if c.2.2 && !T c.1 then .bad i 4
    else chkGo T (i + 1) (seen ++ [c.1]) (if c.2.2 then after else after ++ [c.1]) (if c.2.2 then n else n + c.2.1.length) r
def lenAt (F : List FileS) (v : Int) (p : ByteArray) : Nat := match atRow F v p with
  | some r => r.data.length
  | none => 0
/-- Files that stay as they are. -/
def stayL (F : List FileS) (now : Nat) (seen : List ByteArray) : List ByteArray := (listT now F now ⟨#[]⟩).1.filter fun p => !memB p seen
def sumL (f : ByteArray → Nat) (l : List ByteArray) : Nat := (l.map f).sum
def clashL (after : List ByteArray) : Bool := (List.range after.length).any fun i => (after.take i).any fun q => clashB (after.getD i ⟨#[]⟩) q
def endT (now m : Nat) (after : List ByteArray) (n : Nat) : GErr :=
  if clashL after then .fault m 90 else if 64 < after.length ∨ 262144 < n ∨ now = 1048576 then .fault m 3 else .nil
def chkT (now : Nat) (F : List FileS) (l : List ChgD) : GErr := match chkGo (thereB F now) 0 [] [] 0 l with
  | .bad i c => .fault i c
  | .ok after n => endT now l.length (after ++ stayL F now (l.map (·.1))) (n + sumL (lenAt F now) (stayL F now (l.map (·.1))))
/-- A map of what was seen. -/
def SeenIs (ms : Lit → Option Value) (seen : List ByteArray) : Prop := ∀ p, ms (keyS p) = if memB p seen = true then some (Value.bool true) else none
theorem seen_none : SeenIs (fun _ => none) [] := fun p => rfl
theorem SeenIs.put {ms : Lit → Option Value} {seen : List ByteArray} (h : SeenIs ms seen) (p : ByteArray) : SeenIs (upd ms (keyS p) (.bool true)) (seen ++ [p]) := fun q => by
  rw [memB_snoc]
  by_cases e : q = p
  · subst e
    rw [upd_same (kl := keyS q) trivial, if_pos (by simp)]
  · have e' : ¬ p = q := fun h => e h.symm
    rw [upd_other (keyS_ne e), h q, decide_eq_false e', Bool.or_false]
theorem SeenIs.look {ms : Lit → Option Value} {seen : List ByteArray} (h : SeenIs ms seen) (p : ByteArray) : (ms (keyS p)).getD (.bool false) = .bool (memB p seen) := by
  rw [h p]
  cases memB p seen <;> rfl
theorem zeroBool (w : World) : (zeroValue 4).run Tryd.prog w = .ok (.bool false) w := by kernel_rfl
theorem retErr_new {w W : World} {p k : Int} {g : GErr} (hg : g = .fault p k) (hb : Below w.heap.size w W) :
    RetErr w g (.returned (.iface 49 (.pointer (some ⟨W.heap.size, 0, none⟩)))) (W.alloc (.cells #[.int .i64 p, .int .i64 k] 51)) := by
  subst hg
  have e0 : ∀ i v, (#[.int .i64 p, .int .i64 k] : Array Value)[i]? = some v → (W.alloc (.cells #[.int .i64 p, .int .i64 k] 51)).cell? ⟨W.heap.size, i, none⟩ = some v := fun i v h => by
    rw [World.cell?_alloc_at _ _ _ _ rfl]
    exact h
  exact ⟨_, rfl, ⟨W.heap.size, rfl, e0 0 _ rfl, e0 1 _ rfl, _, _, heap_alloc_new W _⟩, below_from hb (below_one W _)⟩
def restJ (L seen : List ByteArray) (j : Nat) : List ByteArray := (L.take j).filter fun p => !memB p seen
theorem restJ_len (L seen : List ByteArray) (j : Nat) : (restJ L seen j).length ≤ j := Nat.le_trans (List.length_filter_le _ _) (by simp; omega)
theorem restJ_no {L seen : List ByteArray} {j : Nat} (hj : j < L.length) (h : memB L[j] seen = true) : restJ L seen (j + 1) = restJ L seen j := by
  unfold restJ
  rw [List.take_succ_eq_append_getElem hj, List.filter_append]
  simp [h]
theorem restJ_yes {L seen : List ByteArray} {j : Nat} (hj : j < L.length) (h : memB L[j] seen = false) : restJ L seen (j + 1) = restJ L seen j ++ [L[j]] := by
  unfold restJ
  rw [List.take_succ_eq_append_getElem hj, List.filter_append]
  simp [h]
theorem sumL_snoc (f : ByteArray → Nat) (l : List ByteArray) (p : ByteArray) : sumL f (l ++ [p]) = sumL f l + f p := by simp [sumL]
theorem sumL_le {f : ByteArray → Nat} {l : List ByteArray} {m : Nat} (h : ∀ p ∈ l, f p ≤ m) : sumL f l ≤ l.length * m := by
  induction l with
  | nil => simp [sumL]
  | cons a r ih =>
    have h1 := h a (by simp)
    have h2 := ih (fun p hp => h p (by simp [hp]))
    simp only [sumL, List.map_cons, List.sum_cons, List.length_cons] at h2 ⊢
    rw [Nat.succ_mul]
    omega
theorem sortB_mem {l : List ByteArray} {p : ByteArray} (h : p ∈ sortB l) : p ∈ l := by
  obtain ⟨b, hb, rfl⟩ := List.mem_map.1 h
  have := (List.mergeSort_perm _ _).mem_iff.1 hb
  obtain ⟨s, hs, rfl⟩ := List.mem_map.1 this
  have e : (⟨s.data.toList.toArray⟩ : ByteArray) = s := by cases s; simp
  rw [e]
  exact hs
theorem listT_now (now : Nat) (F : List FileS) (root : ByteArray) : (listT now F now root).2 = 0 ∧ (listT now F now root).1.length ≤ F.length ∧ ∀ p ∈ (listT now F now root).1, p ∈ F.map FileS.path ∧ thereB F now p = true := by
  have e : listT now F now root = (sortB ((F.map FileS.path).filter (listedB F now root)), 0) := by rw [listT, if_neg (by omega)]
  rw [e]
  refine ⟨rfl, ?_, fun p hp => ?_⟩
  · rw [sortB_len]
    exact Nat.le_trans (List.length_filter_le _ _) (by simp)
  · have h1 := List.mem_filter.1 (sortB_mem hp)
    have h2 := h1.2
    simp only [listedB, Bool.and_eq_true] at h2
    exact ⟨h1.1, h2.2⟩
theorem there_row {F : List FileS} {v : Int} {p : ByteArray} (h : thereB F v p = true) : ∃ r, atRow F v p = some r ∧ r.gone = false := by
  unfold thereB at h
  cases hr : atRow F v p with
  | none => rw [hr] at h; cases h
  | some r => rw [hr] at h; exact ⟨r, rfl, by simpa using h⟩
theorem strs_cell {w : World} {base : Nat} {A : Option Addr} {n c : Nat} {xs : List ByteArray} (h : w.ownsRow base 9 1 (.slice A n c) n (strs xs)) {k : Nat} (hk : k < xs.length) : ∃ b, A = some ⟨b, 0, none⟩ ∧ w.cell? ⟨b, k, none⟩ = some (.string xs[k]) := by
  have hl : xs.length = n := by have := h.1; simp [strs] at this; omega
  obtain ⟨g, cap, e, _, _⟩ := h.form (by omega)
  injection e with e1 e2 e3
  subst e1
  refine ⟨g, rfl, ?_⟩
  have := h.cellAt k (by omega)
  rw [this]
  simp [strs, hk]
theorem clash_row {l : List ByteArray} {i j : Nat} (hi : i < l.length) (hj : j < i) (h : clashB l[i] (l[j]'(by omega)) = true) : clashL l = true := by
  refine List.any_eq_true.2 ⟨i, List.mem_range.2 hi, List.any_eq_true.2 ⟨l[j]'(by omega), List.mem_take_iff_getElem.2 ⟨j, by omega, rfl⟩, ?_⟩⟩
  have : l.getD i ⟨#[]⟩ = l[i] := by simp [List.getD, hi]
  rw [this]
  exact h
theorem clash_none {l : List ByteArray} (h : ∀ i (hi : i < l.length) j (hj : j < i), clashB l[i] (l[j]'(by omega)) = false) : clashL l = false := by
  unfold clashL
  rw [List.any_eq_false]
  intro i hi
  have hi := List.mem_range.1 hi
  have e : l.getD i ⟨#[]⟩ = l[i] := by simp [List.getD, hi]
  rw [e]
  simp only [Bool.not_eq_true, List.any_eq_false]
  intro q hq
  obtain ⟨j, hj, rfl⟩ := List.mem_take_iff_getElem.1 hq
  simp [h i hi j (by omega)]
theorem endT_clash {now m : Nat} {af : List ByteArray} {sm : Nat} (h : clashL af = true) : endT now m af sm = .fault m 90 := by rw [endT, if_pos h]
theorem endT_full {now m : Nat} {af : List ByteArray} {sm : Nat} (h : clashL af = false) (h2 : 64 < af.length ∨ 262144 < sm ∨ now = 1048576) : endT now m af sm = .fault m 3 := by rw [endT, if_neg (by simp [h]), if_pos h2]
theorem endT_ok {now m : Nat} {af : List ByteArray} {sm : Nat} (h : clashL af = false) (h2 : ¬ (64 < af.length ∨ 262144 < sm ∨ now = 1048576)) : endT now m af sm = .nil := by rw [endT, if_neg (by simp [h]), if_neg h2]
theorem chk_bad {T : ByteArray → Bool} {i : Nat} {seen after : List ByteArray} {n : Nat} {c : ChgD} {r : List ChgD} {cd : Int}
    (h : (if (checkB c.1).isSome then some (90 : Int) else if memB c.1 seen then some 5 else if c.2.2 && decide (0 < c.2.1.length) then some 31 else if c.2.2 && !T c.1 then some 4 else none) = some cd) : chkGo T i seen after n (c :: r) = .bad i cd := by
  rw [chkGo]
  split at h
  · rename_i h1; rw [if_pos h1]; injection h with h; rw [h]
  · rename_i h1; rw [if_neg h1]
    split at h
    · rename_i h2; rw [if_pos h2]; injection h with h; rw [h]
    · rename_i h2; rw [if_neg h2]
      split at h
      · rename_i h3; rw [if_pos h3]; injection h with h; rw [h]
      · rename_i h3; rw [if_neg h3]
        split at h
        · rename_i h4; rw [if_pos h4]; injection h with h; rw [h]
        · cases h
theorem chk_on {T : ByteArray → Bool} {i : Nat} {seen after : List ByteArray} {n : Nat} {c : ChgD} {r : List ChgD} (h1 : checkB c.1 = none) (h2 : memB c.1 seen = false) (h3 : (c.2.2 && decide (0 < c.2.1.length)) = false) (h4 : (c.2.2 && !T c.1) = false) :
    chkGo T i seen after n (c :: r) = chkGo T (i + 1) (seen ++ [c.1]) (if c.2.2 then after else after ++ [c.1]) (if c.2.2 then n else n + c.2.1.length) r := by
  rw [chkGo, h1, h2, h3, h4]
  simp
theorem chkT_bad {now : Nat} {F : List FileS} {l : List ChgD} {i : Nat} {c : Int} (h : chkGo (thereB F now) 0 [] [] 0 l = .bad i c) : chkT now F l = .fault i c := by rw [chkT, h]
end Go.Proofs.YtkplkienbgoofaaDoor
