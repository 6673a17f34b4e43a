/-
  path.Set: what it comes to.
-/
import Derived.Test.YtlidenehfmlebaaGreatDoorPathAny
import Derived.Test.YtlidenehfmlebaaGreatDoorPathFns
import Derived.Test.YtlidenehfmlebaaGreatDoorSetPlain
import Derived.Test.YtlidenehfmlebaaGreatDoorErrN
import Derived.WalkKit
import Derived.Outline
import Derived.Below
import Derived.WalkLawsBesides
import Derived.WalkSpells
import Derived.Lib.Hide
import Derived.OwnWalk
import Derived.Deep.RegionLaw
import Derived.Deep.RegionLawGrows
import Derived.Deep.Upon
import Derived.Deep.QuietTactic
import Derived.BigQuiet
import Derived.BigFrame
import Derived.Laws.OwnMore
set_option linter.unusedVariables false
set_option linter.unusedSimpArgs false
namespace Go.Proofs.YtlidenehfmlebaaGreatDoor
open Go.RowKit
theorem infoStr : (Tryz.prog.info? 9).map (fun i => (i.zero, i.size, i.bytes)) = some (some (.string ⟨#[]⟩), 1, 16) := by kernel_rfl
/-- Nothing is appended, as a step of a region. -/
theorem step_append_nothing {P : Program} {ops : Array Oper} {o : Oper} {a : Act} {w : World} {K : Act → World → Prop} {Q : Exit → Act → World → Prop} {E : Prop}
    (hg : o.guard = none) (s x : Operand) (t : TypeId) (hop : o.op = Op.call { callee := Callee.builtin Builtin.append, args := #[s, x], argTypes := #[t, t] })
    (e : TypeId) (i : TypeInfo) (h1 : P.underlying t = some (.slice e)) (h2 : P.info? e = some i)
    (ao : Option Addr) (n cap : Nat) (hs : a.eval s = .slice ao n cap) (hle : n ≤ cap) (bo : Option Addr) (c : Nat) (hx : a.eval x = .slice bo 0 c)
    (hK : K (a.put o.dst (.slice ao n cap)) w) :
    if Region.wanted o (yielded ops a.tmps) = true then Oper.wp P o a w K Q else E := by
  have hw : Region.wanted o (yielded ops a.tmps) = true := by simp [Region.wanted, hg]
  rw [if_pos hw]
  have hsrc : Src P i.size t (.slice bo 0 c) 0 [] w := by
    cases bo with
    | none => exact Src.ofNil w h1 c
    | some b => exact Src.ofSlice w h1 b 0 c [] (by simp) (fun j u h => by simp at h) (fun u h => by cases h)
  have hrun := run_append_nothing (P := P) w t t o.type e i h1 h2 ao n cap hle _ hsrc
  unfold Oper.wp
  simp [execOp, hop, resolve, invoke, builtin, hs, hx, hrun, Result.andThen]
  exact hK
/-- .. in a straight region. -/
theorem wpList_append_nothing {P : Program} {ops : Array Oper} {rest : List Oper} {o : Oper} {a : Act} {w : World} {Q : Exit → Act → World → Prop}
    (hg : o.guard = none) (s x : Operand) (t : TypeId) (hop : o.op = Op.call { callee := Callee.builtin Builtin.append, args := #[s, x], argTypes := #[t, t] })
    (e : TypeId) (i : TypeInfo) (h1 : P.underlying t = some (.slice e)) (h2 : P.info? e = some i)
    (ao : Option Addr) (n cap : Nat) (hs : a.eval s = .slice ao n cap) (hle : n ≤ cap) (bo : Option Addr) (c : Nat) (hx : a.eval x = .slice bo 0 c)
    (hK : wpList P ops Q rest (a.put o.dst (.slice ao n cap)) w) : wpList P ops Q (o :: rest) a w := by
  refine wpList_plain hg fun K hK' => ?_
  have hsrc : Src P i.size t (.slice bo 0 c) 0 [] w := by
    cases bo with
    | none => exact Src.ofNil w h1 c
    | some b => exact Src.ofSlice w h1 b 0 c [] (by simp) (fun j u h => by simp at h) (fun u h => by cases h)
  have hrun := run_append_nothing (P := P) w t t o.type e i h1 h2 ao n cap hle _ hsrc
  unfold Oper.wp
  simp [execOp, hop, resolve, invoke, builtin, hs, hx, hrun, Result.andThen]
  exact hK' _ _ hK
/-- A slice's texts, where there are any. -/
def TextsIn (w : World) (ad : Addr) (l : List ByteArray) : Prop := ∀ k (h : k < l.length), w.cell? (ad.add k) = some (.string l[k])
theorem TextsIn.below {w w' : World} {ad : Addr} {l : List ByteArray} (h : TextsIn w ad l) (hb : Below w.heap.size w w') : TextsIn w' ad l := fun k hk => cell_below hb (h k hk)
def TextsAt (w : World) (b o : Nat) (l : List ByteArray) : Prop := ∀ k (h : k < l.length), w.cell? ⟨b, o + k, none⟩ = some (.string l[k])
theorem TextsAt.below {w w' : World} {b o : Nat} {l : List ByteArray} (h : TextsAt w b o l) (hb : Below w.heap.size w w') : TextsAt w' b o l := fun k hk => cell_below hb (h k hk)
def strs (l : List ByteArray) : List Value := l.map Value.string
/-- What path.Set hands back. -/
def SetPost (w : World) (r : SetR) (e : Ending) (w' : World) : Prop :=
  Below w.heap.size w w' ∧ match r with
  | .none_ i => ∃ v, e = .returned (.tuple #[.slice none 0 0, v]) ∧ ErrV w' v (.joined i 90)
  | .bad i c => ∃ v, e = .returned (.tuple #[.slice none 0 0, v]) ∧ ErrV w' v (.fault i c)
  | .ok xs => ∃ v, e = .returned (.tuple #[v, .nilIface]) ∧ w'.ownsRow w.heap.size 9 1 v xs.length (strs xs)
theorem setPost_bad {w W : World} {i c : Nat} {r : SetR} (hr : r = .bad i c) (hb : Below w.heap.size w W) :
    SetPost w r (.returned (.tuple #[.slice none 0 0, .iface 186 (.pointer (some ⟨W.heap.size, 0, none⟩))])) (W.alloc (.cells #[.int .i64 i, .int .i64 c] 188)) := by
  subst hr
  exact ⟨hb.alloc hb.size _, _, rfl, ⟨W.heap.size, rfl, by simp, by simp, _, _, heap_alloc_new W _⟩⟩
theorem own_below {w w1 : World} {base : Nat} {e : TypeId} {size n : Nat} {v : Value} {xs : List Value} (h : w.ownsRow base e size v n xs) (hb : Below w.heap.size w w1) : w1.ownsRow base e size v n xs :=
  h.kept (row := none) ⟨hb.os, hb.tape, hb.output, hb.size, fun i hi _ => hb.block i hi⟩ (by cases v.ownBlock <;> simp)
/-- The form of a row that holds texts. -/
theorem own_form {w : World} {base : Nat} {v : Value} {xs : List ByteArray} (h : w.ownsRow base 9 1 v xs.length (strs xs)) (hn : 0 < xs.length) :
    ∃ g cap, v = .slice (some ⟨g, 0, none⟩) xs.length cap ∧ xs.length ≤ cap ∧ TextsAt w g 0 xs := by
  rcases h.2 with ⟨_, h0⟩ | ⟨g, cap, cur, rfl, _, hb, hc, _, hs, ht⟩
  · omega
  · refine ⟨g, cap, rfl, hc, fun k hk => ?_⟩
    have h1 : (cur.toList.take (xs.length * 1))[k]? = some (.string xs[k]) := by rw [ht]; simp [strs, hk]
    rw [List.getElem?_take] at h1
    simp at h1
    simp [World.cell?, hb, h1.2]
theorem own_mono {w : World} {b b' : Nat} {e : TypeId} {size n : Nat} {v : Value} {xs : List Value} (h : w.ownsRow b e size v n xs) (hb : b' ≤ b) : w.ownsRow b' e size v n xs := by
  refine ⟨h.1, ?_⟩
  rcases h.2 with h1 | ⟨g, cap, cur, h1, h2, h3⟩
  · exact .inl h1
  · exact .inr ⟨g, cap, cur, h1, Nat.le_trans hb h2, h3⟩
/-- A row that isn't empty lies somewhere. -/
theorem own_some {w : World} {b n : Nat} {v : Value} {xs : List Value} {e : TypeId} (h : w.ownsRow b e 1 v n xs) (hn : 0 < n) : ∃ g c, v = .slice (some ⟨g, 0, none⟩) n c ∧ b ≤ g ∧ ∀ j u, xs[j]? = some u → w.cell? ((⟨g, 0, none⟩ : Addr).add j) = some u := by
  rcases h.2 with ⟨_, h0⟩ | ⟨g, cap, cur, rfl, hb, _⟩
  · omega
  · exact ⟨g, cap, rfl, hb, h.cells rfl⟩
theorem texts_cells {w : World} {g : Nat} {xs : List ByteArray} (h : TextsAt w g 0 xs) (j : Nat) (u : Value) (hj : (strs xs)[j]? = some u) : w.cell? ((⟨g, 0, none⟩ : Addr).add j) = some u := by
  obtain ⟨hlt, rfl⟩ := List.getElem?_eq_some_iff.1 hj
  have := h j (by simpa [strs] using hlt)
  rw [Addr.add_lit]
  simpa [strs] using this
theorem texts_drop {w : World} {g q : Nat} {xs : List ByteArray} (h : TextsAt w g 0 xs) (j : Nat) (u : Value) (hj : (strs (xs.drop q))[j]? = some u) : w.cell? ((⟨g, q, none⟩ : Addr).add j) = some u := by
  have hj2 : (strs xs)[q + j]? = some u := by rw [← hj]; simp [strs]
  have := texts_cells h (q + j) u hj2
  rw [Addr.add_lit] at this ⊢
  rw [← this]
  congr 2
  omega
theorem texts_take {w : World} {g q : Nat} {xs : List ByteArray} (h : TextsAt w g 0 xs) (j : Nat) (u : Value) (hj : (strs (xs.take q))[j]? = some u) : w.cell? ((⟨g, 0, none⟩ : Addr).add j) = some u := by
  refine texts_cells h j u ?_
  have hlt := (List.getElem?_eq_some_iff.1 hj).1
  rw [← hj]
  simp [strs] at hlt
  simp only [strs, List.getElem?_map]
  rw [List.getElem?_take, if_pos (by omega)]
theorem strs_one (xs : List ByteArray) : ∀ u ∈ strs xs, u.oneCell' = true := by
  intro u hu
  obtain ⟨x, _, rfl⟩ := List.mem_map.1 hu
  rfl
theorem below_of_grown {w w' : World} (h : w.grownBy w' none) : Below w.heap.size w w' := (Below.refl _ _).grown h (Nat.le_refl _) (fun k hk => by cases hk)
theorem hit_same {s x : ByteArray} (h : (x.toList == s.toList) = true) : hit s x = some 5 := by rw [hit, if_pos h]
theorem hit_clash {s x : ByteArray} (h : (x.toList == s.toList) = false) (hc : clashB x s = true) : hit s x = some 90 := by rw [hit, if_neg (by simp [h]), if_pos hc]
theorem hit_none {s x : ByteArray} (h : (x.toList == s.toList) = false) (hc : clashB x s = false) : hit s x = none := by rw [hit, if_neg (by simp [h]), if_neg (by simp [hc])]
theorem faultAt_new (w : World) (p e : Int) : FaultAt (w.alloc (.cells #[.int .i64 p, .int .i64 e] 188)) w.heap.size p e := ⟨by simp, by simp, _, _, heap_alloc_new w _⟩
/-- How far path.Set has come. -/
def SetAt (w : World) (l : List ByteArray) (v : Value) (i : Nat) (wr : World) : Prop :=
  ∃ xs : List ByteArray, wr.ownsRow w.heap.size 9 1 v xs.length (strs xs) ∧ Below w.heap.size w wr ∧ xs.length ≤ i ∧ (∀ x ∈ xs, x.size ≤ 140737488351232) ∧ (xs = [] → v = .slice none 0 0) ∧ setGo i xs (l.drop i) = setGo 0 [] l
theorem setAt_next {w w2 W w' : World} {l xs : List ByteArray} {s : ByteArray} {k n : Nat} {v : Value} {ys : List Value} (HB2 : Below w.heap.size w w2) (hW : Below w2.heap.size w2 W) (hg : W.grownBy w' none)
    (hown : w'.ownsRow W.heap.size 9 1 v n ys) (hn : n = (ins s xs).length) (hys : ys = strs (ins s xs)) (hxk : xs.length ≤ k) (hxz : ∀ x ∈ xs, x.size ≤ 140737488351232) (hsz : s.size ≤ 140737488351232) (hset : setGo (k + 1) (ins s xs) (l.drop (k + 1)) = setGo 0 [] l) : SetAt w l v (k + 1) w' := by
  subst hys hn
  have h1 := below_from HB2 hW
  refine ⟨ins s xs, own_mono hown h1.size, below_from h1 (below_of_grown hg), ?_, fun x hx => ?_, fun h => ?_, hset⟩
  · rw [ins_length]; omega
  · rcases List.mem_append.1 hx with h | h
    · exact hxz x (List.mem_of_mem_take h)
    · rcases List.mem_cons.1 h with rfl | h
      · exact hsz
      · exact hxz x (List.mem_of_mem_drop h)
  · have := congrArg List.length h
    rw [ins_length] at this
    simp at this
theorem setGo_next {l xs : List ByteArray} {s : ByteArray} {k : Nat} (h : setGo k xs (s :: l.drop (k + 1)) = setGo 0 [] l) (h1 : checkB s = none) (h2 : scan s xs = none) : setGo (k + 1) (ins s xs) (l.drop (k + 1)) = setGo 0 [] l := by
  rw [← h, setGo.eq_def k xs (s :: _)]
  simp only [h1, h2]
theorem setGo_hit {l xs : List ByteArray} {s : ByteArray} {k c : Nat} (h : setGo k xs (s :: l.drop (k + 1)) = setGo 0 [] l) (h1 : checkB s = none) (h2 : scan s xs = some c) : setGo 0 [] l = .bad k c := by
  rw [← h, setGo.eq_def k xs (s :: _)]
  simp only [h1, h2]
end Go.Proofs.YtlidenehfmlebaaGreatDoor
