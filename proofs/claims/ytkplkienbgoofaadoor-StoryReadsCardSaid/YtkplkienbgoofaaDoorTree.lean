/-
  A tree in memory; a file at a version.
-/
import Derived.Test.YtkplkienbgoofaaDoorOffRow
import Derived.Deep.AppendLies
set_option linter.unusedVariables false
set_option linter.unusedSimpArgs false
namespace Go.Proofs.YtkplkienbgoofaaDoor
open Go.RowKit Go.Maps Go.WideMaps
theorem flatG_length {α : Type} {cells : α → List Value} {k : Nat} (hk : ∀ a, (cells a).length = k) : ∀ q : List α, (q.flatMap cells).length = q.length * k
  | [] => by simp
  | a :: r => by rw [List.flatMap_cons, List.length_append, hk, flatG_length hk r, List.length_cons, Nat.succ_mul]; omega
theorem flatG_get {α : Type} {cells : α → List Value} {n : Nat} (hn : ∀ a, (cells a).length = n) : ∀ (q : List α) (k : Nat) (hk : k < q.length) (j : Nat), j < n → (q.flatMap cells)[k * n + j]? = (cells q[k])[j]?
  | a :: r, 0, _, j, hj => by
    simp only [List.flatMap_cons, List.getElem_cons_zero, Nat.zero_mul, Nat.zero_add]
    rw [List.getElem?_append_left (by rw [hn]; exact hj)]
  | a :: r, k + 1, hk, j, hj => by
    simp only [List.flatMap_cons, List.getElem_cons_succ]
    rw [List.getElem?_append_right (by rw [hn, Nat.succ_mul]; omega)]
    have := flatG_get hn r k (by simpa using hk) j hj
    rw [← this]
    congr 1
    rw [hn, Nat.succ_mul]; omega
/-- A file from a version on. -/
structure SRow where
  ver : Int
  val : Value
  data : List Int
  gone : Bool
def SRow.cells (r : SRow) : List Value := [.int .i64 r.ver, r.val, .bool r.gone]
theorem SRow.cells_len (r : SRow) : r.cells.length = 3 := rfl
def zS : SRow := ⟨0, .nilIface, [], false⟩
def u8V (l : List Int) : List Value := l.map (Value.int .u8)
/-- A path's states. -/
structure FileS where
  path : ByteArray
  val : Value
  rows : List SRow
/-- Data of the tree's own. -/
def DataAt (w : World) (base : Nat) (r : SRow) : Prop := w.ownsRow base 5 1 r.val r.data.length (u8V r.data) ∧ (∀ x ∈ r.data, (Lit.int .u8 x).wf = true) ∧ r.data.length ≤ 300000
def keyS (p : ByteArray) : Lit := .string p.data.toList
theorem keyS_same (a b : ByteArray) : (keyS a).sameKey (keyS b) = decide (a = b) := by
  unfold keyS
  by_cases h : a = b
  · subst h
    simp [Lit.sameKey]
  · have : a.data.toList ≠ b.data.toList := fun e => h (by cases a; cases b; simp at e; simpa using e)
    have e1 : (Lit.string a.data.toList).sameKey (.string b.data.toList) = (a.data.toList == b.data.toList) := rfl
    rw [e1, beq_eq_false_iff_ne.2 this, decide_eq_false h]
theorem keyS_ne {a b : ByteArray} (h : a ≠ b) : keyS a ≠ keyS b := fun e => by
  have := keyS_same a b
  rw [e, same_self (l := keyS b) trivial] at this
  simp [h] at this
def fileOf (F : List FileS) (p : ByteArray) : Option FileS := F.find? fun f => decide (f.path = p)
def lookF (F : List FileS) (kl : Lit) : Option Value := (F.find? fun f => (keyS f.path).sameKey kl).map FileS.val
theorem lookF_key (F : List FileS) (p : ByteArray) : lookF F (keyS p) = (fileOf F p).map FileS.val := by
  unfold lookF fileOf
  congr 2
  funext f
  exact keyS_same f.path p
/-- How many states there are. -/
def mapN (F : List FileS) : Nat := (F.map fun f => f.rows.length).sum
theorem strKeyed : Keyed Tryd.prog 9 := string_keyed Tryd.underlying9
/-- The last of the first k states that was there at a version. -/
def lastK (rows : List SRow) (v : Int) : Nat → Option SRow
  | 0 => none
  | k + 1 => if (rows.getD k zS).ver ≤ v then some (rows.getD k zS) else lastK rows v k
def atRow (F : List FileS) (v : Int) (p : ByteArray) : Option SRow := match fileOf F p with
  | some f => lastK f.rows v f.rows.length
  | none => none
def atV : Option SRow → Value
  | some r => .tuple #[r.val, .bool (!r.gone)]
  | none => .tuple #[.slice none 0 0, .bool false]
theorem file_mem {F : List FileS} {p : ByteArray} {f : FileS} (h : fileOf F p = some f) : f ∈ F ∧ f.path = p := by
  refine ⟨List.mem_of_find?_eq_some h, ?_⟩
  have := List.find?_some h
  simpa using this
end Go.Proofs.YtkplkienbgoofaaDoor
