/-
  Ranging over a map of the call's own whose keys are texts.
-/
import Derived.Test.YtlidenehfmlebaaGreatDoorTreeRead
import Derived.Maps.RangeWalk
set_option linter.unusedVariables false
set_option linter.unusedSimpArgs false
namespace Go.Proofs.YtlidenehfmlebaaGreatDoor
open Go.RowKit Go.Maps Go.WideMaps Go.WideAt
/-- The loop over a map is under way: what is still to come. -/
def RangeAs (w : World) (P : Program) (k : TypeId) (b r n : Nat) (m : Lit → Option Value) (left : Lit → Bool) (cnt : Nat) : Prop :=
  ∃ D : DataW Value, w.ranges P k valR b r n D left cnt ∧ ∀ kl, IsKeyLit kl → Maps.has D kl = (m kl).isSome ∧ ∀ z, D.atKey kl (.held z) = .held ((m kl).getD z)
theorem RangeAs.map {w : World} {P : Program} {k : TypeId} {b r n : Nat} {m : Lit → Option Value} {left : Lit → Bool} {cnt : Nat} (h : RangeAs w P k b r n m left cnt) : MapAs w P k b n m := by
  obtain ⟨D, h1, h2⟩ := h
  exact ⟨D, h1.owns, h2⟩
theorem RangeAs.left_eq {w : World} {P : Program} {k : TypeId} {b r n : Nat} {m : Lit → Option Value} {left : Lit → Bool} {cnt : Nat} (h : RangeAs w P k b r n m left cnt) : w.rangeLeft b r = cnt := by
  obtain ⟨D, h1, h2⟩ := h
  exact h1.left_eq
theorem RangeAs.kept {w w' : World} {P : Program} {k : TypeId} {b r n : Nat} {m : Lit → Option Value} {left : Lit → Bool} {cnt : Nat} {row : Option Nat} (h : RangeAs w P k b r n m left cnt) (hg : w.grownBy w' row) (hb : some b ≠ row) (hr : some r ≠ row) : RangeAs w' P k b r n m left cnt := by
  obtain ⟨D, h1, h2⟩ := h
  exact ⟨D, h1.kept hg hb hr, h2⟩
theorem grown_of_below {w w' : World} (h : Below w.heap.size w w') : w.grownBy w' none := ⟨h.os, h.tape, h.output, h.size, fun i hi _ => h.block i hi⟩
theorem RangeAs.below {w w' : World} {P : Program} {k : TypeId} {b r n : Nat} {m : Lit → Option Value} {left : Lit → Bool} {cnt : Nat} (h : RangeAs w P k b r n m left cnt) (hb : Below w.heap.size w w') : RangeAs w' P k b r n m left cnt :=
  h.kept (grown_of_below hb) (by simp) (by simp)
theorem RangeAs.iter {w : World} {P : Program} {k : TypeId} {b r n : Nat} {m : Lit → Option Value} {left : Lit → Bool} {cnt : Nat} (h : RangeAs w P k b r n m left cnt) : ∃ b' s s' c, w.heap[r]? = some (.mapIter b' s s' c) := by
  obtain ⟨D, ⟨es, clock, since, seen, c0, _, _, _, _, hr, _⟩, _⟩ := h
  exact ⟨_, _, _, _, hr⟩
section
variable {P : Program} (w : World) {ops : Array Oper} {rest : List Oper} {o : Oper} {a : Act} {Q : Exit → Act → World → Prop}
theorem wpList_range_as (hg : o.guard = none) (mo : Operand) (t : TypeId) (hop : o.op = Op.range t mo) (k e : TypeId) (K : Keyed P k) (ht : P.underlying t = some (.map k e)) (b n : Nat) (m : Lit → Option Value) (hm : a.eval mo = .map (some b)) (hown : MapAs w P k b n m)
    (hK : ∀ w' left cnt, RangeAs w' P k b w.heap.size n m left cnt → (∀ kl, IsKeyLit kl → left kl = (m kl).isSome) → w.grownBy w' none → w'.heap.size = w.heap.size + 1 → wpList P ops Q rest (a.put o.dst (.pointer (some ⟨w.heap.size, 0, none⟩))) w') :
    wpList P ops Q (o :: rest) a w := by
  obtain ⟨D, h1, h2⟩ := hown
  exact wpList_range_own w hg mo t hop k e K ht valR b n D hm h1 (fun w' h3 h4 h5 => hK w' _ _ ⟨D, h3, h2⟩ (fun kl hkl => (h2 kl hkl).1) h4 h5)
theorem wpList_next_as (hg : o.guard = none) (it : Operand) (hop : o.op = Op.next it false) (k : TypeId) (hk : P.underlying k = some .string) (K : Keyed P k) (b r n : Nat) (m : Lit → Option Value) (left : Lit → Bool) (cnt : Nat)
    (hit : a.eval it = .pointer (some ⟨r, 0, none⟩)) (h : RangeAs w P k b r n m left cnt)
    (hDone : (∀ kl, left kl = false) → wpList P ops Q rest (a.put o.dst (.tuple #[.bool false])) w)
    (hMore : ∀ (x : ByteArray) (c : Value) (w' : World) (cnt' : Nat), x.size ≤ maxLen → left (keyS x) = true → m (keyS x) = some c → RangeAs w' P k b r n m (fun z => left z && !z.sameKey (keyS x)) cnt' → cnt' < cnt →
      w.grownBy w' (some r) → w'.heap.size = w.heap.size → (Instr.entry (.pointer (some ⟨r, 0, none⟩))).run P w' = .ok (.tuple #[.string x, c]) w' → wpList P ops Q rest (a.put o.dst (.tuple #[.bool true, .string x, c])) w') :
    wpList P ops Q (o :: rest) a w := by
  obtain ⟨D, h1, h2⟩ := h
  refine wpList_next_ranges w hg it hop k K valR Value.string (fun v : Value => v) (fun key kl hkey => ?_) (fun v y _ => ⟨v, rfl⟩) b r n D left cnt hit h1 (fun _ h => hDone h) (fun x c kl y w' cnt' hkey hl hR hat hrg hlt hgr hsz hen => ?_)
  · obtain ⟨s, e, _, _⟩ := string_of_keyOf hk hkey
    exact ⟨s, e⟩
  · obtain ⟨s, e, ekl, hs⟩ := string_of_keyOf hk hkey
    injection e with e
    subst e
    have hkl : kl = keyS x := ekl
    subst hkl
    have hy : y.1 = .held c := by
      have : (DataW.held c, ([] : List MemPlace)) = y := Option.some.inj hR
      rw [← this]
    have hs1 : (m (keyS x)).isSome = true := by
      rw [← (h2 (keyS x) trivial).1]
      exact Maps.has_true_of_atKey (y := y.1) hat
    obtain ⟨v, hv⟩ := Option.isSome_iff_exists.1 hs1
    have hvc : v = c := by
      have h3 := (h2 (keyS x) trivial).2 .nilIface
      rw [hat, hy, hv] at h3
      injection h3 with h3
      exact h3.symm
    subst hvc
    exact hMore x v w' cnt' hs hl hv ⟨D, hrg, h2⟩ hlt hgr hsz hen
end
end Go.Proofs.YtlidenehfmlebaaGreatDoor
