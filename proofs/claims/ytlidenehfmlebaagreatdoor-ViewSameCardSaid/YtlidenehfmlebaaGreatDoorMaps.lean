/-
  Maps of the call's own whose elements read as themselves.
-/
import Derived.Test.YtlidenehfmlebaaGreatDoorErrN
import Derived.Maps.OwnSet
import Derived.Maps.OwnOps
set_option linter.unusedVariables false
set_option linter.unusedSimpArgs false
namespace Go.Proofs.YtlidenehfmlebaaGreatDoor
open Go.RowKit Go.Maps Go.WideAt
/-- An element reads as itself. -/
def valR (v : Value) : Option (DataW Value × List MemPlace) := some (.held v, [])
/-- What a map holds with one key more. -/
def upd (m : Lit → Option Value) (kl : Lit) (v : Value) : Lit → Option Value := fun l => if l.sameKey kl then some v else m l
/-- .. with one key less. -/
def del (m : Lit → Option Value) (kl : Lit) : Lit → Option Value := fun l => if l.sameKey kl then none else m l
theorem same_self {l : Lit} (h : IsKeyLit l) : l.sameKey l = true := by cases l <;> simp [Lit.sameKey, IsKeyLit] at *
theorem upd_same {m : Lit → Option Value} {kl : Lit} (h : IsKeyLit kl) (v : Value) : upd m kl v kl = some v := by simp [upd, same_self h]
theorem upd_other {m : Lit → Option Value} {kl l : Lit} (h : l ≠ kl) (v : Value) : upd m kl v l = m l := by simp [upd, sameKey_ne h]
theorem del_same {m : Lit → Option Value} {kl : Lit} (h : IsKeyLit kl) : del m kl kl = none := by simp [del, same_self h]
theorem del_other {m : Lit → Option Value} {kl l : Lit} (h : l ≠ kl) : del m kl l = m l := by simp [del, sameKey_ne h]
/-- Block b is a map of at most n entries that holds m. -/
def MapAs (w : World) (P : Program) (k : TypeId) (b n : Nat) (m : Lit → Option Value) : Prop :=
  ∃ D : DataW Value, w.ownsMap P k valR b n D ∧ ∀ kl, IsKeyLit kl → Maps.has D kl = (m kl).isSome ∧ ∀ z, D.atKey kl (.held z) = .held ((m kl).getD z)
theorem mapAs_new (w : World) (P : Program) (k : TypeId) : MapAs (w.alloc (.map #[] 0)) P k w.heap.size 0 (fun _ => none) :=
  ⟨.map [], World.ownsMap_made _ _ _ _, fun kl _ => ⟨rfl, fun z => rfl⟩⟩
theorem MapAs.lt {w : World} {P : Program} {k : TypeId} {b n : Nat} {m : Lit → Option Value} (h : MapAs w P k b n m) : b < w.heap.size := h.choose_spec.1.lt
theorem MapAs.mono {w : World} {P : Program} {k : TypeId} {b n n' : Nat} {m : Lit → Option Value} (h : MapAs w P k b n m) (hn : n ≤ n') : MapAs w P k b n' m := by
  obtain ⟨D, h1, h2⟩ := h
  exact ⟨D, h1.mono hn, h2⟩
theorem MapAs.block {w w' : World} {P : Program} {k : TypeId} {b n : Nat} {m : Lit → Option Value} (h : MapAs w P k b n m) (hb : w'.heap[b]? = w.heap[b]?) : MapAs w' P k b n m := by
  obtain ⟨D, ⟨es, clock, h1, h2, h3, h4⟩, h5⟩ := h
  exact ⟨D, ⟨es, clock, hb.trans h1, h2, h3, h4⟩, h5⟩
theorem MapAs.below {w w' : World} {P : Program} {k : TypeId} {b n : Nat} {m : Lit → Option Value} (h : MapAs w P k b n m) (hb : Below w.heap.size w w') : MapAs w' P k b n m := h.block (hb.block b h.lt)
theorem MapAs.grown {w w' : World} {P : Program} {k : TypeId} {b n : Nat} {m : Lit → Option Value} {row : Option Nat} (h : MapAs w P k b n m) (hg : w.grownBy w' row) (hne : some b ≠ row) : MapAs w' P k b n m := by
  obtain ⟨D, h1, h2⟩ := h
  exact ⟨D, h1.kept hg hne, h2⟩
/-- 'm[k]'. -/
theorem MapAs.look {w : World} {P : Program} {k t e : TypeId} {b n : Nat} {m : Lit → Option Value} (h : MapAs w P k b n m) (K : Keyed P k) (ht : P.underlying t = some (.map k e)) {z : Value} (hz : (zeroValue e).run P w = .ok z w) {key : Value} {kl : Lit} (hkey : keyOf P k key = some kl) :
    (Instr.lookup t (.map (some b)) key false).run P w = .ok ((m kl).getD z) w := by
  obtain ⟨D, h1, h2⟩ := h
  obtain ⟨v, ps, hrun, hv⟩ := h1.lookup K ht hz (zd := .held z) (zp := []) rfl hkey
  rw [(h2 kl (K.key hkey)).2 z] at hv
  have : v = (m kl).getD z := by
    have := congrArg (Option.map Prod.fst) hv
    simpa [valR] using this
  rw [hrun, this]
/-- 'v, ok := m[k]'. -/
theorem MapAs.look_ok {w : World} {P : Program} {k t e : TypeId} {b n : Nat} {m : Lit → Option Value} (h : MapAs w P k b n m) (K : Keyed P k) (ht : P.underlying t = some (.map k e)) {z : Value} (hz : (zeroValue e).run P w = .ok z w) {key : Value} {kl : Lit} (hkey : keyOf P k key = some kl) :
    (Instr.lookup t (.map (some b)) key true).run P w = .ok (.tuple #[(m kl).getD z, .bool (m kl).isSome]) w := by
  obtain ⟨D, h1, h2⟩ := h
  obtain ⟨v, ps, hrun, hv⟩ := h1.look_ok K ht hz (zd := .held z) (zp := []) rfl hkey
  rw [(h2 kl (K.key hkey)).2 z] at hv
  have : v = (m kl).getD z := by
    have := congrArg (Option.map Prod.fst) hv
    simpa [valR] using this
  rw [hrun, this, (h2 kl (K.key hkey)).1]
/-- 'm[k] = v', as an equation. -/
theorem MapAs.store {w : World} {P : Program} {k t e : TypeId} {b n : Nat} {m : Lit → Option Value} (hown : MapAs w P k b n m) (K : Keyed P k) (ht : P.underlying t = some (.map k e)) (hn : n < maxLen) {key : Value} (val : Value) {kl : Lit} (hkey : keyOf P k key = some kl) :
    ∃ w', (Instr.mapUpdate t (.map (some b)) key val).run P w = .ok () w' ∧ MapAs w' P k b (n + 1) (upd m kl val) ∧ w.grownBy w' (some b) := by
  obtain ⟨D, h1, h2⟩ := hown
  obtain ⟨w', hrun, h3, h4⟩ := h1.update K ht hn hkey (val := val) (d := .held val) (ps := []) rfl
  refine ⟨w', hrun, ⟨_, h3, fun l hl => ?_⟩, h4⟩
  have hkl := K.key hkey
  have hD : IsMap D := h1.isMap
  by_cases e : l = kl
  · subst e
    rw [upd_same hl, has_put_same hD hl]
    exact ⟨rfl, fun z => atKey_put_same hD hl _ _⟩
  · rw [upd_other e, has_put_other e]
    exact ⟨(h2 l hl).1, fun z => by rw [atKey_put_other e]; exact (h2 l hl).2 z⟩
/-- 'delete(m, k)', as an equation. -/
theorem MapAs.drop {w : World} {P : Program} {k t e : TypeId} {b n : Nat} {m : Lit → Option Value} (hown : MapAs w P k b n m) (K : Keyed P k) (ht : P.underlying t = some (.map k e)) {key : Value} {kl : Lit} (hkey : keyOf P k key = some kl) (ty : TypeId) :
    ∃ w', (Builtin.delete_ #[t, k] ty #[.map (some b), key]).run P w = .ok (.tuple #[]) w' ∧ MapAs w' P k b n (del m kl) ∧ w.grownBy w' (some b) := by
  obtain ⟨D, h1, h2⟩ := hown
  obtain ⟨w', hrun, h3, h4⟩ := h1.drop K ht hkey ty
  refine ⟨w', hrun, ⟨_, h3, fun l hl => ?_⟩, h4.grown⟩
  by_cases e : l = kl
  · subst e
    rw [del_same hl, has_del_same]
    exact ⟨rfl, fun z => atKey_del_same _⟩
  · rw [del_other e, has_del_other e]
    exact ⟨(h2 l hl).1, fun z => by rw [atKey_del_other e]; exact (h2 l hl).2 z⟩
/-- At the operation: 'm[k]'. -/
theorem wpList_look {P : Program} (w : World) {ops : Array Oper} {rest : List Oper} {o : Oper} {a : Act} {Q : Exit → Act → World → Prop}
    (hg : o.guard = none) (mo x : Operand) (t : TypeId) (hop : o.op = Op.lookup t mo x false) (k e : TypeId) (K : Keyed P k) (ht : P.underlying t = some (.map k e)) {z : Value} (hz : (zeroValue e).run P w = .ok z w) (b n : Nat) (m : Lit → Option Value)
    (hm : a.eval mo = .map (some b)) (hown : MapAs w P k b n m) (key : Value) (kl : Lit) (hx : a.eval x = key) (hkey : keyOf P k key = some kl) {r : Value} (hr : (m kl).getD z = r)
    (hK : wpList P ops Q rest (a.put o.dst r) w) : wpList P ops Q (o :: rest) a w := by
  refine wpList_plain hg fun K' hK' => ?_
  unfold Oper.wp
  simp [execOp, hop, hm, hx, hown.look K ht hz hkey, hr, Result.andThen]
  exact hK' _ _ hK
theorem wpList_look_ok {P : Program} (w : World) {ops : Array Oper} {rest : List Oper} {o : Oper} {a : Act} {Q : Exit → Act → World → Prop}
    (hg : o.guard = none) (mo x : Operand) (t : TypeId) (hop : o.op = Op.lookup t mo x true) (k e : TypeId) (K : Keyed P k) (ht : P.underlying t = some (.map k e)) {z : Value} (hz : (zeroValue e).run P w = .ok z w) (b n : Nat) (m : Lit → Option Value)
    (hm : a.eval mo = .map (some b)) (hown : MapAs w P k b n m) (key : Value) (kl : Lit) (hx : a.eval x = key) (hkey : keyOf P k key = some kl) {r : Value} (hr : (m kl).getD z = r) {s : Bool} (hs : (m kl).isSome = s)
    (hK : wpList P ops Q rest (a.put o.dst (.tuple #[r, .bool s])) w) : wpList P ops Q (o :: rest) a w := by
  refine wpList_plain hg fun K' hK' => ?_
  unfold Oper.wp
  simp [execOp, hop, hm, hx, hown.look_ok K ht hz hkey, hr, hs, Result.andThen]
  exact hK' _ _ hK
/-- 'm[k] = v'. -/
theorem wpList_store {P : Program} (w : World) {ops : Array Oper} {rest : List Oper} {o : Oper} {a : Act} {Q : Exit → Act → World → Prop}
    (hg : o.guard = none) (mo x v : Operand) (t : TypeId) (hop : o.op = Op.mapUpdate t mo x v) (k e : TypeId) (K : Keyed P k) (ht : P.underlying t = some (.map k e)) (b n : Nat) (m : Lit → Option Value)
    (hm : a.eval mo = .map (some b)) (hown : MapAs w P k b n m) (hn : n < maxLen) (key val : Value) (kl : Lit) (hx : a.eval x = key) (hv : a.eval v = val) (hkey : keyOf P k key = some kl)
    (hK : ∀ w', MapAs w' P k b (n + 1) (upd m kl val) → w.grownBy w' (some b) → wpList P ops Q rest (a.put o.dst undef) w') : wpList P ops Q (o :: rest) a w := by
  obtain ⟨D, h1, h2⟩ := hown
  refine wpList_mapUpdate_own w hg mo x v t hop k e K ht valR b n D hm h1 hn key val kl hx hv hkey (.held val) [] rfl (fun w' h3 h4 => hK w' ⟨_, h3, fun l hl => ?_⟩ h4)
  have hkl := K.key hkey
  have hD : IsMap D := h1.isMap
  by_cases e : l = kl
  · subst e
    rw [upd_same hl, has_put_same hD hl]
    exact ⟨rfl, fun z => atKey_put_same hD hl _ _⟩
  · rw [upd_other e, has_put_other e]
    exact ⟨(h2 l hl).1, fun z => by rw [atKey_put_other e]; exact (h2 l hl).2 z⟩
/-- 'delete(m, k)'. -/
theorem wpList_del {P : Program} (w : World) {ops : Array Oper} {rest : List Oper} {o : Oper} {a : Act} {Q : Exit → Act → World → Prop}
    (hg : o.guard = none) (mo x : Operand) (t k : TypeId) (hop : o.op = Op.call { callee := Callee.builtin Builtin.delete, args := #[mo, x], argTypes := #[t, k] }) (e : TypeId) (K : Keyed P k) (ht : P.underlying t = some (.map k e)) (b n : Nat) (m : Lit → Option Value)
    (hm : a.eval mo = .map (some b)) (hown : MapAs w P k b n m) (key : Value) (kl : Lit) (hx : a.eval x = key) (hkey : keyOf P k key = some kl)
    (hK : ∀ w', MapAs w' P k b n (del m kl) → w.grownBy w' (some b) → wpList P ops Q rest (a.put o.dst (.tuple #[])) w') : wpList P ops Q (o :: rest) a w := by
  obtain ⟨D, h1, h2⟩ := hown
  refine wpList_delete_own w hg mo x t k hop e K ht valR b n D hm h1 key kl hx hkey (fun w' h3 h4 => hK w' ⟨_, h3, fun l hl => ?_⟩ h4.grown)
  have hkl := K.key hkey
  by_cases e : l = kl
  · subst e
    rw [del_same hl, has_del_same]
    exact ⟨rfl, fun z => atKey_del_same _⟩
  · rw [del_other e, has_del_other e]
    exact ⟨(h2 l hl).1, fun z => by rw [atKey_del_other e]; exact (h2 l hl).2 z⟩
end Go.Proofs.YtlidenehfmlebaaGreatDoor
