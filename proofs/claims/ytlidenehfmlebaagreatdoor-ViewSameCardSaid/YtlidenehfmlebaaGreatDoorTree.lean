/-
  A tree in memory; a file at a version.
-/
import Derived.Test.YtlidenehfmlebaaGreatDoorOffRow
import Derived.Deep.AppendLies
set_option linter.unusedVariables false
set_option linter.unusedSimpArgs false
namespace Go.Proofs.YtlidenehfmlebaaGreatDoor
open Go.RowKit Go.Maps Go.WideMaps
theorem flatG_length {α : Type} {cells : α → List Value} {k : Nat} (hk : ∀ a, (cells a).length = k) : ∀ q : List α, (q.flatMap cells).length = q.length * k
  | [] => by simp
  | a :: r => by rw [List.flatMap_cons, List.length_append, hk, flatG_length hk r, List.length_cons, Nat.succ_mul]; omega
theorem flatG_get {α : Type} {cells : α → List Value} {n : Nat} (hn : ∀ a, (cells a).length = n) : ∀ (q : List α) (k : Nat) (hk : k < q.length) (j : Nat), j < n → (q.flatMap cells)[k * n + j]? = (cells q[k])[j]?
  | a :: r, 0, _, j, hj => by
    simp only [List.flatMap_cons, List.getElem_cons_zero, Nat.zero_mul, Nat.zero_add]
    rw [List.getElem?_append_left (by rw [hn]; exact hj)]
  | a :: r, k + 1, hk, j, hj => by
    simp only [List.flatMap_cons, List.getElem_cons_succ]
    rw [List.getElem?_append_right (by rw [hn, Nat.succ_mul]; omega)]
    have := flatG_get hn r k (by simpa using hk) j hj
    rw [← this]
    congr 1
    rw [hn, Nat.succ_mul]; omega
/-- A file from a version on. -/
structure SRow where
  ver : Int
  val : Value
  data : List Int
  gone : Bool
def SRow.cells (r : SRow) : List Value := [.int .i64 r.ver, r.val, .bool r.gone]
theorem SRow.cells_len (r : SRow) : r.cells.length = 3 := rfl
def zS : SRow := ⟨0, .nilIface, [], false⟩
def u8V (l : List Int) : List Value := l.map (Value.int .u8)
/-- A path's states. -/
structure FileS where
  path : ByteArray
  val : Value
  rows : List SRow
/-- Data of the tree's own. -/
def DataAt (w : World) (base : Nat) (r : SRow) : Prop := w.ownsRow base 5 1 r.val r.data.length (u8V r.data) ∧ (∀ x ∈ r.data, (Lit.int .u8 x).wf = true) ∧ r.data.length ≤ 300000
def FileAt (w : World) (base : Nat) (f : FileS) : Prop :=
  OffRow w base 157 3 f.val f.rows.length (f.rows.flatMap SRow.cells) ∧ 0 < f.rows.length ∧ (∀ r ∈ f.rows, DataAt w base r) ∧ f.path.size ≤ 64
def keyS (p : ByteArray) : Lit := .string p.data.toList
theorem keyS_same (a b : ByteArray) : (keyS a).sameKey (keyS b) = decide (a = b) := by
  unfold keyS
  by_cases h : a = b
  · subst h
    simp [Lit.sameKey]
  · have : a.data.toList ≠ b.data.toList := fun e => h (by cases a; cases b; simp at e; simpa using e)
    have e1 : (Lit.string a.data.toList).sameKey (.string b.data.toList) = (a.data.toList == b.data.toList) := rfl
    rw [e1, beq_eq_false_iff_ne.2 this, decide_eq_false h]
theorem keyS_ne {a b : ByteArray} (h : a ≠ b) : keyS a ≠ keyS b := fun e => by
  have := keyS_same a b
  rw [e, same_self (l := keyS b) trivial] at this
  simp [h] at this
def fileOf (F : List FileS) (p : ByteArray) : Option FileS := F.find? fun f => decide (f.path = p)
def lookF (F : List FileS) (kl : Lit) : Option Value := (F.find? fun f => (keyS f.path).sameKey kl).map FileS.val
theorem lookF_key (F : List FileS) (p : ByteArray) : lookF F (keyS p) = (fileOf F p).map FileS.val := by
  unfold lookF fileOf
  congr 2
  funext f
  exact keyS_same f.path p
/-- How many states there are. -/
def mapN (F : List FileS) : Nat := (F.map fun f => f.rows.length).sum
/-- A tree at a block. -/
structure TreeAt (w : World) (base g b now : Nat) (F : List FileS) : Prop where
  cell : w.heap[g]? = some (Obj.cells #[.int .i64 now, .map (some b)] 106 (0, 0))
  hg : base ≤ g
  hb : base ≤ b
  map : MapAs w Tryz.prog 9 b (mapN F) (lookF F)
  once : (F.map FileS.path).Nodup
  apart : F.Pairwise fun x y => x.val.ownBlock ≠ y.val.ownBlock
  files : ∀ f ∈ F, FileAt w base f
theorem FileAt.below {w w' : World} {base : Nat} {f : FileS} (h : FileAt w base f) (hb : Below w.heap.size w w') : FileAt w' base f :=
  ⟨h.1.stay hb, h.2.1, fun r hr => ⟨own_stay (h.2.2.1 r hr).1 hb, (h.2.2.1 r hr).2⟩, h.2.2.2⟩
theorem TreeAt.below {w w' : World} {base g b now : Nat} {F : List FileS} (h : TreeAt w base g b now F) (hb : Below w.heap.size w w') : TreeAt w' base g b now F :=
  ⟨(hb.block g (lt_of_block h.cell)).trans h.cell, h.hg, h.hb, h.map.below hb, h.once, h.apart, fun f hf => (h.files f hf).below hb⟩
theorem strKeyed : Keyed Tryz.prog 9 := string_keyed Tryz.underlying9
theorem zeroStates (w : World) : (zeroValue 107).run Tryz.prog w = .ok (.slice none 0 0) w := by kernel_rfl
/-- The last of the first k states that was there at a version. -/
def lastK (rows : List SRow) (v : Int) : Nat → Option SRow
  | 0 => none
  | k + 1 => if (rows.getD k zS).ver ≤ v then some (rows.getD k zS) else lastK rows v k
def atRow (F : List FileS) (v : Int) (p : ByteArray) : Option SRow := match fileOf F p with
  | some f => lastK f.rows v f.rows.length
  | none => none
def atV : Option SRow → Value
  | some r => .tuple #[r.val, .bool (!r.gone)]
  | none => .tuple #[.slice none 0 0, .bool false]
theorem rows_form {w : World} {base : Nat} {f : FileS} (h : FileAt w base f) : ∃ b o c, f.val = .slice (some ⟨b, o, none⟩) f.rows.length c ∧ f.rows.length ≤ c ∧ ∀ k (hk : k < f.rows.length), w.cell? ⟨b, o + k * 3, none⟩ = some (.int .i64 f.rows[k].ver) ∧ w.cell? ⟨b, o + k * 3 + 1, none⟩ = some f.rows[k].val ∧ w.cell? ⟨b, o + k * 3 + 2, none⟩ = some (.bool f.rows[k].gone) := by
  obtain ⟨g, o, cap, e, hcap, _, _, hcell⟩ := h.1.form h.2.1
  refine ⟨g, o, cap, e, hcap, fun k hk => ?_⟩
  have ec : ∀ j, j < 3 → w.cell? ⟨g, o + k * 3 + j, none⟩ = (f.rows[k].cells)[j]? := fun j hj => by
    rw [Nat.add_assoc, hcell (k * 3 + j) (by omega), flatG_get SRow.cells_len f.rows k hk j hj]
  exact ⟨ec 0 (by omega), ec 1 (by omega), ec 2 (by omega)⟩
theorem file_mem {F : List FileS} {p : ByteArray} {f : FileS} (h : fileOf F p = some f) : f ∈ F ∧ f.path = p := by
  refine ⟨List.mem_of_find?_eq_some h, ?_⟩
  have := List.find?_some h
  simpa using this
theorem tree_cells {w : World} {base g b now : Nat} {F : List FileS} (h : TreeAt w base g b now F) : w.cell? ⟨g, 0, none⟩ = some (.int .i64 now) ∧ w.cell? ⟨g, 1, none⟩ = some (.map (some b)) := by
  constructor <;> simp [World.cell?, h.cell]
set_option maxRecDepth 100000 in
set_option maxHeartbeats 4000000 in
theorem at_any (g b now : Nat) (v : Int) (p : ByteArray) (F : List FileS) (w : World) {base : Nat} (hp : p.size ≤ maxLen) (hr : ∀ f ∈ F, f.rows.length ≤ 100000) (ht : TreeAt w base g b now F) :
    Calls Tryz.prog 65 #[.pointer (some ⟨g, 0, none⟩), .int .i64 v, .string p] w fun e w' => e = .returned (atV (atRow F v p)) ∧ Below w.heap.size w w' := by
  obtain ⟨c0, c1⟩ := tree_cells ht
  have hlook := ht.map.look strKeyed Tryz.underlying104 (zeroStates w) (key := .string p) (keyOf_string_mk Tryz.underlying9 hp)
  have hlk : lookF F (.string p.data.toList) = (fileOf F p).map FileS.val := lookF_key F p
  rw [hlk] at hlook
  cases hf : fileOf F p with
  | none =>
    rw [hf] at hlook
    have HF := Lib.hid hf
    clear hf ht hr hlk
    go_enter Tryz.func65, Tryz.ntmps65
    go_wp2_with fail
    refine wp_loop_rounds 1 ?_
    rw [rounds_succ]
    go_wp2
    go_ret2
    exact ⟨by rw [atRow, HF.out]; rfl, Below.refl _ _⟩
  | some f =>
    rw [hf] at hlook
    obtain ⟨hfm, hfp⟩ := file_mem hf
    obtain ⟨bb, oo, cc, hv, hcc, hcell⟩ := rows_form (ht.files f hfm)
    have hrl := hr f hfm
    have hlook2 : (Instr.lookup 104 (.map (some b)) (.string p) false).run Tryz.prog w = .ok (.slice (some ⟨bb, oo, none⟩) f.rows.length cc) w := by
      rw [hlook, ← hv]; rfl
    have hpos := (ht.files f hfm).2.1
    have HF := Lib.hid hf
    have HC := Lib.hid hcell
    clear hf ht hr hlk hlook hcell hv
    go_enter Tryz.func65, Tryz.ntmps65
    go_wp2_with fail
    go_loop [9] (fun i => ∃ k : Nat, k ≤ f.rows.length ∧ i = .int .i64 ((k : Int) - 1) ∧ lastK f.rows v f.rows.length = lastK f.rows v k) (fun i => (intOf i + 1).toNat)
    case atStart => exact ⟨f.rows.length, by omega, rfl, rfl⟩
    case round =>
      obtain ⟨k, hk, rfl, hlast⟩ := hrel
      have HL := Lib.hid hlast
      clear hlast
      cases k with
      | zero =>
        have e0 : ((0 : Nat) : Int) - 1 = -1 := by omega
        rw [e0]
        go_wp2
        go_ret2
        exact ⟨by rw [atRow, HF.out]; show _ = Ending.returned (atV (lastK f.rows v f.rows.length)); rw [HL.out]; rfl, Below.refl _ _⟩
      | succ m =>
        have e0 : ((m + 1 : Nat) : Int) - 1 = m := by omega
        rw [e0]
        obtain ⟨x1, x2, x3⟩ := HC.out m (by omega)
        obtain ⟨r, hr⟩ : ∃ r, r = f.rows[m] := ⟨_, rfl⟩
        rw [← hr] at x1 x2 x3
        have hgd : f.rows.getD m zS = r := by rw [hr]; simp [List.getD, show m < f.rows.length by omega]
        have HGD := Lib.hid hgd
        clear hr hgd
        by_cases hle : r.ver ≤ v
        · have d1 : decide (r.ver ≤ v) = true := decide_eq_true hle
          have HR : Hid (atRow F v p = some r) := Lib.hid (by rw [atRow, HF.out]; show lastK f.rows v f.rows.length = _; rw [HL.out, lastK, HGD.out, if_pos hle])
          go_wp2_with fail
          go_quiet (fail)
          go_wp2_with fail
          go_ret2
          exact ⟨by rw [HR.out]; rfl, below_drewN (Below.refl _ _) _⟩
        · have d1 : decide (r.ver ≤ v) = false := decide_eq_false hle
          have HN : Hid (lastK f.rows v f.rows.length = lastK f.rows v m) := Lib.hid (by rw [HL.out, lastK, HGD.out, if_neg hle])
          go_wp2_with fail
          go_round
          case rel => exact ⟨m, by omega, by go_num, HN.out⟩
          case measure => simp [intOf]
end Go.Proofs.YtlidenehfmlebaaGreatDoor
