/-
  The law PushOrder holds for every input: the row and its card, out of the walk; taking of the package-level variables just what the card ties.
-/
import Derived.Test.YtkplkienbgoofaaGreatDoorOffRow
import Derived.Test.YtkplkienbgoofaaGreatDoorMaps
import Derived.Test.YtkplkienbgoofaaGreatDoorViewDone
import Derived.Test.YtkplkienbgoofaaGreatDoorPullMake
import Derived.Test.YtkplkienbgoofaaGreatDoorPathPlain
import Derived.Test.YtkplkienbgoofaaGreatDoorPathPlain2
import Derived.Test.YtkplkienbgoofaaGreatDoorPathAny
import Derived.Test.YtkplkienbgoofaaGreatDoorPathFns
import Derived.Test.YtkplkienbgoofaaGreatDoorShelf
import Derived.WalkKit
import Derived.Outline
import Derived.LaidEql
import Derived.Below
import Derived.WalkLawsBesides
import Derived.WalkSpells
import Derived.Deep.QuietTactic
import Derived.BigQuiet
import Derived.Deep.LoopGhost
import Derived.Lib.Hide
import Derived.Test.YtkplkienbgoofaaGreatDoorOwnKit
import Derived.Test.YtkplkienbgoofaaGreatDoorPathSet
import Derived.Test.YtkplkienbgoofaaGreatDoorArgs
import Derived.Deep.AppendLies
import Derived.Deep.RegionWith
import Derived.Deep.RegionHeld3
import Derived.Laws.OwnMore
import Derived.BigRegion
import Derived.Deep.RegionLaw
import Derived.Maps.AppendAt
import Derived.Test.YtkplkienbgoofaaGreatDoorTreeAllW
import Derived.Test.YtkplkienbgoofaaGreatDoorViewTidy
import Derived.Test.YtkplkienbgoofaaGreatDoorErrN
import Derived.Test.YtkplkienbgoofaaGreatDoorViewHead
import Derived.Lib.SmallJoins
import Derived.Handy
import Derived.Test.YtkplkienbgoofaaGreatDoorCards
import Derived.Test.YtkplkienbgoofaaGreatDoorTie
import Derived.Test.YtkplkienbgoofaaGreatDoorRowKit
import Derived.SevenTiedAt
import Derived.SizedLaws
set_option linter.unusedVariables false
set_option linter.unusedSimpArgs false
namespace Go.Proofs.YtkplkienbgoofaaGreatDoor
open Go.RowKit Go.Maps Go.WideMaps Go.WideAt
/-- All but some blocks stays. -/
structure FrB (S : Nat → Prop) (w w' : World) : Prop where
  os : w'.os = w.os
  tape : w'.tape = w.tape
  output : w'.output = w.output
  size : w.heap.size ≤ w'.heap.size
  block : ∀ k, k < w.heap.size → ¬ S k → w'.heap[k]? = w.heap[k]?
theorem FrB.refl (S : Nat → Prop) (w : World) : FrB S w w := ⟨rfl, rfl, rfl, Nat.le_refl _, fun _ _ _ => rfl⟩
theorem FrB.of_below {S : Nat → Prop} {w w' : World} (h : Below w.heap.size w w') : FrB S w w' := ⟨h.os, h.tape, h.output, h.size, fun k hk _ => h.block k hk⟩
theorem FrB.of_grown {S : Nat → Prop} {w w' : World} {row : Option Nat} (h : w.grownBy w' row) (hr : ∀ b, row = some b → b < w.heap.size → S b) : FrB S w w' := ⟨h.os, h.tape, h.output, h.size, fun k hk hn => h.block k hk (fun e => hn (hr k e.symm hk))⟩
theorem FrB.trans {S S' : Nat → Prop} {w w1 w2 : World} (h1 : FrB S w w1) (h2 : FrB S' w1 w2) (hs : ∀ k, k < w.heap.size → S' k → S k) : FrB S w w2 :=
  ⟨h2.os.trans h1.os, h2.tape.trans h1.tape, h2.output.trans h1.output, Nat.le_trans h1.size h2.size, fun k hk hn => (h2.block k (Nat.lt_of_lt_of_le hk h1.size) (fun h => hn (hs k hk h))).trans (h1.block k hk hn)⟩
theorem FrB.mono {S S' : Nat → Prop} {w w' : World} (h : FrB S w w') (hs : ∀ k, k < w.heap.size → S k → S' k) : FrB S' w w' := ⟨h.os, h.tape, h.output, h.size, fun k hk hn => h.block k hk (fun h => hn (hs k hk h))⟩
theorem FrB.below {S : Nat → Prop} {w w' : World} {B : Nat} (h : FrB S w w') (hB : B ≤ w.heap.size) (hS : ∀ k, S k → B ≤ k) : Below B w w' :=
  ⟨h.os, h.tape, h.output, h.size, fun k hk => h.block k (by omega) (fun hs => by have := hS k hs; omega)⟩
theorem FrB.set {S : Nat → Prop} {w : World} {b n : Nat} (v : Value) (hb : S b) : FrB S w (w.setCell ⟨b, n, none⟩ v) := ⟨rfl, rfl, rfl, by simp, fun k _ hn => Below.heap_setCell w ⟨b, n, none⟩ _ k (fun e => hn (by rw [e]; exact hb))⟩
theorem FrB.own {S : Nat → Prop} {w w' : World} (h : FrB S w w') {base size n : Nat} {e : TypeId} {v : Value} {xs : List Value} (ho : w.ownsRow base e size v n xs) (hne : ∀ b, v.ownBlock = some b → ¬ S b) : w'.ownsRow base e size v n xs := by
  obtain ⟨a, c⟩ := ho
  refine ⟨a, ?_⟩
  rcases c with c | ⟨g, cap, cur, rfl, hbb, hg, r⟩
  · exact .inl c
  · exact .inr ⟨g, cap, cur, rfl, hbb, (h.block g (lt_of_block hg) (hne g rfl)).trans hg, r⟩
theorem FrB.off {S : Nat → Prop} {w w' : World} (h : FrB S w w') {base size n : Nat} {e : TypeId} {v : Value} {xs : List Value} (ho : OffRow w base e size v n xs) (hne : ∀ b, v.ownBlock = some b → ¬ S b) : OffRow w' base e size v n xs := by
  obtain ⟨a, c⟩ := ho
  refine ⟨a, ?_⟩
  rcases c with c | ⟨g, off, cap, cur, rfl, hbb, hg, r⟩
  · exact .inl c
  · exact .inr ⟨g, off, cap, cur, rfl, hbb, (h.block g (lt_of_block hg) (hne g rfl)).trans hg, r⟩
theorem FrB.at_ {S : Nat → Prop} {w w' : World} (h : FrB S w w') {k : Nat} {o : Obj} (ho : w.heap[k]? = some o) (hne : ¬ S k) : w'.heap[k]? = some o := (h.block k (lt_of_block ho) hne).trans ho
/-- Are some blocks rows of some types? -/
def OfTypes (w : World) (S : Nat → Prop) (ts : List TypeId) : Prop := ∀ k, S k → k < w.heap.size → ∃ cs t fr, w.heap[k]? = some (Obj.cells cs t fr) ∧ t ∈ ts
theorem OfTypes.cells {w : World} {S : Nat → Prop} {ts : List TypeId} (h : OfTypes w S ts) {k : Nat} {cs : Array Value} {t : TypeId} {fr : Nat × Nat} (hk : w.heap[k]? = some (Obj.cells cs t fr)) (ht : t ∉ ts) : ¬ S k := fun hs => by
  obtain ⟨cs2, t2, fr2, h1, h2⟩ := h k hs (lt_of_block hk)
  rw [hk] at h1
  injection h1 with h1
  injection h1 with _ h3
  exact ht (h3 ▸ h2)
theorem OfTypes.map {w : World} {S : Nat → Prop} {ts : List TypeId} (h : OfTypes w S ts) {k : Nat} {es : Array MapEntry} {ck : Nat} (hk : w.heap[k]? = some (Obj.map es ck)) : ¬ S k := fun hs => by
  obtain ⟨cs2, t2, fr2, h1, h2⟩ := h k hs (lt_of_block hk)
  rw [hk] at h1
  cases h1
theorem OfTypes.row {w : World} {S : Nat → Prop} {ts : List TypeId} (h : OfTypes w S ts) {base size n : Nat} {e : TypeId} {v : Value} {xs : List Value} (ho : w.ownsRow base e size v n xs) (ht : e ∉ ts) : ∀ b, v.ownBlock = some b → ¬ S b := fun b hb => by
  rcases ho.2 with ⟨rfl, _⟩ | ⟨k, cap, cur, rfl, _, hh, _⟩
  · simp [Value.ownBlock] at hb
  · have : k = b := by simpa [Value.ownBlock] using hb
    subst this
    exact h.cells hh ht
theorem OfTypes.offRow {w : World} {S : Nat → Prop} {ts : List TypeId} (h : OfTypes w S ts) {base size n : Nat} {e : TypeId} {v : Value} {xs : List Value} (ho : OffRow w base e size v n xs) (ht : e ∉ ts) : ∀ b, v.ownBlock = some b → ¬ S b := fun b hb => by
  obtain ⟨cur, hc⟩ := ho.blk b hb
  exact h.cells hc ht
theorem FrB.mapAs {S : Nat → Prop} {w w' : World} (h : FrB S w w') {P : Program} {k : TypeId} {b n : Nat} {m : Lit → Option Value} (hm : MapAs w P k b n m) (hne : ¬ S b) : MapAs w' P k b n m := by
  obtain ⟨es, ck, hb⟩ := hm.isMap
  exact hm.block (h.block b (lt_of_block hb) hne)
end Go.Proofs.YtkplkienbgoofaaGreatDoor

namespace Go.Proofs.YtkplkienbgoofaaGreatDoor
open Go.RowKit Go.Maps Go.WideMaps Go.WideAt
/-- A tree stays where blocks of other types are written. -/
theorem FrB.tree {S : Nat → Prop} {w w' : World} (h : FrB S w w') {ts : List TypeId} (hT : OfTypes w S ts) (h1 : 137 ∉ ts) (h2 : 192 ∉ ts) (h3 : 5 ∉ ts) {base g b now : Nat} {F : List FileS} (ht : TreeAt w base g b now F) : TreeAt w' base g b now F := by
  obtain ⟨es, ck, hmb⟩ := ht.map.isMap
  refine ⟨h.at_ ht.cell (hT.cells ht.cell h1), ht.hg, ht.hb, h.mapAs ht.map (hT.map hmb), ht.once, ht.apart, fun f hf => ?_⟩
  have hfa := ht.files f hf
  exact ⟨h.off hfa.1 (hT.offRow hfa.1 h2), hfa.2.1, fun r hr => ⟨h.own (hfa.2.2.1 r hr).1 (hT.row (hfa.2.2.1 r hr).1 h3), (hfa.2.2.1 r hr).2⟩, hfa.2.2.2⟩
/-- A store stays where blocks of other types are written. -/
theorem FrB.store {S : Nat → Prop} {w w' : World} (h : FrB S w w') {ts : List TypeId} (hT : OfTypes w S ts) (h1 : 137 ∉ ts) (h2 : 192 ∉ ts) (h3 : 5 ∉ ts) (h4 : 48 ∉ ts) {base s g b pm now : Nat} {F : List FileS} {L : List Int} (hs : StoreAt w base s g b pm now F L) : StoreAt w' base s g b pm now F L := by
  obtain ⟨m, hm, hp⟩ := hs.pins
  obtain ⟨es, ck, hmb⟩ := hm.isMap
  exact ⟨h.at_ hs.cell (hT.cells hs.cell h4), hs.hs, hs.hp, hs.ne, h.tree hT h1 h2 h3 hs.tree, m, h.mapAs hm (hT.map hmb), hp⟩
end Go.Proofs.YtkplkienbgoofaaGreatDoor

namespace Go.Proofs.YtkplkienbgoofaaGreatDoor

/-- May a segment be? -/
def okSeg (p : List UInt8) : Prop := segNo p = false ∧ badAt 0 p = none
theorem partsBad_iff : ∀ (ps : List (List UInt8)) (k a : Nat), k ≤ 6 → (partsBad k a ps = none ↔ k + ps.length ≤ 6 ∧ ∀ p ∈ ps, okSeg p)
  | [], k, a, hk => by simp [partsBad, hk]
  | p :: ps, k, a, hk => by
    by_cases h6 : k = 6
    · subst h6
      simp [partsBad]
      intro h
      omega
    · cases hs : segNo p with
      | true => simp [partsBad, h6, hs, okSeg]
      | false =>
        cases hb : badAt 0 p with
        | some j => simp [partsBad, h6, hs, hb, okSeg]
        | none =>
          have h1 : partsBad k a (p :: ps) = partsBad (k + 1) (a + (p.length + 1)) ps := by simp [partsBad, h6, hs, hb]
          rw [h1, partsBad_iff ps (k + 1) _ (by omega)]
          simp only [List.length_cons, List.mem_cons, forall_eq_or_imp]
          constructor
          · rintro ⟨x, y⟩
            exact ⟨by omega, ⟨hs, hb⟩, y⟩
          · rintro ⟨x, _, y⟩
            exact ⟨by omega, y⟩
theorem checkB_none (s : ByteArray) : checkB s = none ↔ 1 ≤ s.size ∧ s.size ≤ 64 ∧ (splitSlash s.data.toList).length ≤ 6 ∧ ∀ p ∈ splitSlash s.data.toList, okSeg p := by
  by_cases h1 : 1 ≤ s.size
  · by_cases h2 : s.size ≤ 64
    · rw [checkB_slash s h1 h2, partsBad_iff _ _ _ (by omega)]
      simp [h1, h2]
    · have : checkB s = some (min s.size 64) := by rw [checkB, if_pos]; simp; omega
      simp [this, h2]
  · have h0 : s.size = 0 := by omega
    have : checkB s = some (min s.size 64) := by
      rw [checkB, if_pos]
      have : s.data.toList.length = 0 := h0
      simp [List.isEmpty_iff_length_eq_zero.2 this]
    simp [this, h0]
theorem splitSlash_ne : ∀ l : List UInt8, splitSlash l ≠ []
  | [] => by simp [splitSlash]
  | c :: r => by
    unfold splitSlash
    split
    · simp
    · unfold consHead; split <;> simp
theorem splitSlash_append (a b : List UInt8) : splitSlash (a ++ 47 :: b) = splitSlash a ++ splitSlash b := by
  induction a with
  | nil => simp [splitSlash]
  | cons c r ih =>
    by_cases h : c = 47
    · subst h
      simp [splitSlash, ih]
    · simp only [List.cons_append]
      rw [splitSlash, if_neg h, ih, splitSlash, if_neg h]
      have hn := splitSlash_ne r
      cases hr : splitSlash r with
      | nil => exact absurd hr hn
      | cons p ps => simp [consHead]
theorem okSeg_ne {p : List UInt8} (h : okSeg p) : p ≠ [] ∧ p ≠ [46] ∧ p ≠ [46, 46] := by
  refine ⟨?_, ?_, ?_⟩ <;> (rintro rfl; exact absurd h.1 (by decide))
/-- A text with a segment that may not be is none. -/
theorem not_path_of {s : ByteArray} {p : List UInt8} (hp : p ∈ splitSlash s.data.toList) (hn : segNo p = true) : ∃ q, checkB s = some q := by
  cases h : checkB s with
  | some q => exact ⟨q, rfl⟩
  | none =>
    have := ((checkB_none s).1 h).2.2.2 p hp
    rw [this.1] at hn
    cases hn
/-- The text of a path up to a slash is a path. -/
theorem path_short {s : ByteArray} {i : Nat} (h : checkB s = none) (hi : i < s.size) (h47 : s[i] = 47) : checkB (s.extract 0 i) = none := by
  have hs := (checkB_none s).1 h
  have hd : (s.extract 0 i).data.toList = s.data.toList.take i := by rw [Lib.extract_data]; simp
  have hl : s.data.toList = s.data.toList.take i ++ 47 :: s.data.toList.drop (i + 1) := by
    have : s.data.toList[i]'hi = 47 := h47
    rw [← this, ← List.drop_eq_getElem_cons, List.take_append_drop]
  have hz : (s.extract 0 i).size = i := by rw [← size_len, hd, List.length_take, size_len]; omega
  rw [hl, splitSlash_append] at hs
  obtain ⟨h1, h2, h3, h4⟩ := hs
  rw [checkB_none, hd, hz]
  refine ⟨?_, by omega, by simp at h3; omega, fun p hp => h4 p (List.mem_append_left _ hp)⟩
  rcases Nat.eq_zero_or_pos i with h0 | h0
  · subst h0
    have := h4 [] (List.mem_append_left _ (by simp [splitSlash]))
    exact absurd this.1 (by decide)
  · exact h0
theorem app_data (a b : ByteArray) : (a ++ b).data.toList = a.data.toList ++ b.data.toList := by simp
/-- A path beneath a root. -/
def joinB (root s : ByteArray) : ByteArray := if root.toList.isEmpty then s else root ++ ⟨#[47]⟩ ++ s
theorem joinB_empty {root s : ByteArray} (h : root.toList.isEmpty = true) : joinB root s = s := by rw [joinB, if_pos h]
theorem joinB_root {root s : ByteArray} (h : root.toList.isEmpty = false) : joinB root s = root ++ ⟨#[47]⟩ ++ s := by rw [joinB, if_neg (by simp [h])]
theorem join_data (root s : ByteArray) : (root ++ (⟨#[47]⟩ : ByteArray) ++ s).data.toList = root.data.toList ++ 47 :: s.data.toList := by rw [app_data, app_data]; simp
theorem join_hasP (root s : ByteArray) : hasP (root ++ ⟨#[47]⟩ ++ s) (slash root) = true := by
  unfold hasP Lib.hasPrefix
  rw [List.isPrefixOf_iff_prefix, app_data]
  exact List.prefix_append _ _
theorem join_trim (root s : ByteArray) : trimP (root ++ ⟨#[47]⟩ ++ s) (slash root) = s := by
  apply ba_ext
  rw [trimP_yes (join_hasP root s), Lib.extract_to_end, app_data]
  have : (slash root).size = (root ++ (⟨#[47]⟩ : ByteArray)).data.toList.length := rfl
  rw [this, List.drop_left]
/-- What is joined is beneath. -/
theorem join_beneath {root s : ByteArray} (h : checkB (joinB root s) = none) : beneathB root (joinB root s) = (s, true) := by
  have hs := (checkB_none _).1 h
  cases he : root.toList.isEmpty with
  | true =>
    rw [joinB_empty he] at hs ⊢
    rw [beneathB, if_pos he]
    have : s.toList.isEmpty = false := by rw [ByteArray.toList_eq, ← Bool.not_eq_true, List.isEmpty_iff_length_eq_zero, size_len]; omega
    rw [this]; rfl
  | false =>
    rw [joinB_root he] at hs ⊢
    rw [beneathB, if_neg (by simp [he]), join_trim, join_hasP]
    have : s.toList.isEmpty = false := by
      rw [ByteArray.toList_eq, ← Bool.not_eq_true, List.isEmpty_iff]
      intro e
      have := hs.2.2.2 [] (by rw [join_data, splitSlash_append, e]; simp [splitSlash])
      exact absurd this.1 (by decide)
    rw [this]; rfl
theorem join_size (root s : ByteArray) : (root ++ (⟨#[47]⟩ : ByteArray) ++ s).size = root.size + 1 + s.size := by rw [ByteArray.size_append, ByteArray.size_append]; rfl
/-! ### what is none -/
theorem bad_front (p : List UInt8) (hn : segNo p = true) (h47 : splitSlash p = [p]) {x s : ByteArray} (hx : x.data.toList = p ++ 47 :: s.data.toList) : ∃ q, checkB x = some q :=
  not_path_of (p := p) (by rw [hx, splitSlash_append, h47]; simp) hn
theorem bad_back (p : List UInt8) (hn : segNo p = true) (h47 : splitSlash p = [p]) {x s : ByteArray} (hx : x.data.toList = s.data.toList ++ 47 :: p) : ∃ q, checkB x = some q :=
  not_path_of (p := p) (by rw [hx, splitSlash_append, h47]; simp) hn
end Go.Proofs.YtkplkienbgoofaaGreatDoor

namespace Go.Proofs.YtkplkienbgoofaaGreatDoor
open Go.RowKit

set_option maxRecDepth 100000 in
set_option maxHeartbeats 1000000 in
theorem join_ok (a b : ByteArray) (w : World) (ha : a.size ≤ 140737488351232) (hb : b.size ≤ 140737488351232) (hab : a.size + b.size + 1 ≤ 140737488351232) (hg : EnvM w) (h : checkB (joinB a b) = none) : Calls Tryz.prog 53 #[.string a, .string b] w fun e w' => e = .returned (.tuple #[.string (joinB a b), .nilIface]) ∧ Below w.heap.size w w' := by
  have s1 : a.size + 1 ≤ 9223372036854775807 := by omega
  have s2 : a.size + 1 + b.size ≤ 9223372036854775807 := by omega
  cases he : a.toList.isEmpty with
  | true =>
    rw [joinB_empty he] at h ⊢
    have HC := Lib.hid (check_ok b w (by omega) hg h)
    clear h hg
    go_enter Tryz.func53, Tryz.ntmps53
    go_wp2_with fail
    refine HC.out.mono ?_
    rintro e w' ⟨rfl, hb⟩
    go_wp2
    go_ret2
    exact ⟨rfl, hb⟩
  | false =>
    rw [joinB_root he] at h ⊢
    have HC := Lib.hid (check_ok (a ++ ⟨#[47]⟩ ++ b) w (by rw [join_size]; omega) hg h)
    clear h hg
    go_enter Tryz.func53, Tryz.ntmps53
    go_wp2_with fail
    refine HC.out.mono ?_
    rintro e w' ⟨rfl, hb⟩
    go_wp2
    go_ret2
    exact ⟨rfl, hb⟩
set_option maxRecDepth 100000 in
set_option maxHeartbeats 1000000 in
theorem join_bad (a b : ByteArray) (p : Nat) (w : World) (ha : a.size ≤ 140737488351232) (hb : b.size ≤ 140737488351232) (hab : a.size + b.size + 1 ≤ 140737488351232) (hg : EnvM w) (h : checkB (joinB a b) = some p) : Calls Tryz.prog 53 #[.string a, .string b] w fun e w' => ∃ f, e = .returned (.tuple #[.string ⟨#[]⟩, .iface 174 (.pointer (some ⟨f, 0, none⟩))]) ∧ FaultAt w' f p 90 ∧ Below w.heap.size w w' := by
  have s1 : a.size + 1 ≤ 9223372036854775807 := by omega
  have s2 : a.size + 1 + b.size ≤ 9223372036854775807 := by omega
  cases he : a.toList.isEmpty with
  | true =>
    rw [joinB_empty he] at h
    have HC := Lib.hid (check_bad b p w (by omega) hg h)
    clear h hg
    go_enter Tryz.func53, Tryz.ntmps53
    go_wp2_with fail
    refine HC.out.mono ?_
    rintro e w' ⟨f, rfl, hf, hb⟩
    have HF := Lib.hid hf
    clear hf
    go_wp2
    go_ret2
    exact ⟨f, rfl, HF.out, hb⟩
  | false =>
    rw [joinB_root he] at h
    have HC := Lib.hid (check_bad (a ++ ⟨#[47]⟩ ++ b) p w (by rw [join_size]; omega) hg h)
    clear h hg
    go_enter Tryz.func53, Tryz.ntmps53
    go_wp2_with fail
    refine HC.out.mono ?_
    rintro e w' ⟨f, rfl, hf, hb⟩
    have HF := Lib.hid hf
    clear hf
    go_wp2
    go_ret2
    exact ⟨f, rfl, HF.out, hb⟩
end Go.Proofs.YtkplkienbgoofaaGreatDoor

namespace Go.Proofs.YtkplkienbgoofaaGreatDoor
open Go.RowKit
open Go.Proofs.YtkplkienbgoofaaGreatDoorW.PrintWords (Kd ReadsRow)
def SetR.err : SetR → GErr
  | .none_ i => .joined i 90
  | .bad i c => .fault i c
  | .ok _ => .nil
def SetR.outs : SetR → List ByteArray
  | .ok xs => xs
  | _ => []
def SetR.at_ : SetR → Nat
  | .none_ i => i
  | .bad i _ => i
  | .ok _ => 0
theorem set_any (A : Option Addr) (c : Nat) (l : List ByteArray) (w : World) (hl : l.length ≤ 1000) (hc : TextRow w A l) (hz : ∀ s ∈ l, s.size ≤ 140737488351232) (hg : EnvM w) :
    Calls Tryz.prog 76 #[.slice A l.length c] w fun e w' => Below w.heap.size w w' ∧ ∃ v er, e = .returned (.tuple #[v, er]) ∧ ErrV w' er (setGo 0 [] l).err ∧ w'.ownsRow w.heap.size 9 1 v (setGo 0 [] l).outs.length (strs (setGo 0 [] l).outs) := by
  have key : Calls Tryz.prog 76 #[.slice A l.length c] w (SetPost w (setGo 0 [] l)) := by
    cases l with
    | nil => exact set_empty A c w
    | cons s r =>
      obtain ⟨ad, rfl, ht⟩ := hc (by simp)
      exact set_walk ad c (s :: r) w hl ht hz hg
  refine key.mono ?_
  rintro e w' ⟨hb, h⟩
  refine ⟨hb, ?_⟩
  cases hr : setGo 0 [] l with
  | none_ i =>
    rw [hr] at h
    obtain ⟨v, he, hv⟩ := h
    exact ⟨_, _, he, hv, ⟨rfl, .inl ⟨rfl, rfl⟩⟩⟩
  | bad i c =>
    rw [hr] at h
    obtain ⟨v, he, hv⟩ := h
    exact ⟨_, _, he, hv, ⟨rfl, .inl ⟨rfl, rfl⟩⟩⟩
  | ok xs =>
    rw [hr] at h
    obtain ⟨v, he, hv⟩ := h
    exact ⟨_, _, he, rfl, hv⟩
end Go.Proofs.YtkplkienbgoofaaGreatDoor

namespace Go.Proofs.YtkplkienbgoofaaGreatDoor
open Go.RowKit Go.Maps Go.WideMaps Go.WideAt
/-- One of the files. -/
structure PartD where
  path : ByteArray
  oldv : Value
  old : List Int
  staged : Bool
  redo : Bool
  cpath : ByteArray
  cval : Value
  cdata : List Int
  cgone : Bool
def PartD.cells (p : PartD) : List Value := [.string p.path, p.oldv, .bool p.staged, .bool p.redo, .string p.cpath, p.cval, .bool p.cgone]
theorem PartD.cells_len (p : PartD) : p.cells.length = 7 := rfl
def partV : Value := .agg #[.string ⟨#[]⟩, .slice none 0 0, .bool false, .bool false, .string ⟨#[]⟩, .slice none 0 0, .bool false]
theorem infoPart : (Tryz.prog.info? 182).map (fun i => (i.zero, i.size, i.bytes)) = some (some partV, 7, 96) := by kernel_rfl
/-- Bytes of the call's own. -/
def BytesAt (w : World) (base : Nat) (v : Value) (d : List Int) : Prop := w.ownsRow base 5 1 v d.length (u8V d) ∧ (∀ x ∈ d, (Lit.int .u8 x).wf = true) ∧ d.length ≤ 300000
theorem BytesAt.below {w w' : World} {base : Nat} {v : Value} {d : List Int} (h : BytesAt w base v d) (hb : Below w.heap.size w w') : BytesAt w' base v d := ⟨own_stay h.1 hb, h.2⟩
theorem BytesAt.fr {S : Nat → Prop} {w w' : World} {base : Nat} {v : Value} {d : List Int} (h : BytesAt w base v d) (hf : FrB S w w') (hne : ∀ b, v.ownBlock = some b → ¬ S b) : BytesAt w' base v d := ⟨hf.own h.1 hne, h.2⟩
theorem BytesAt.mono {w : World} {base base' : Nat} {v : Value} {d : List Int} (h : BytesAt w base v d) (hb : base' ≤ base) : BytesAt w base' v d := ⟨own_mono h.1 hb, h.2⟩
theorem bytesAt_nil (w : World) (base : Nat) : BytesAt w base (.slice none 0 0) [] := ⟨World.ownsRow_nil _ _ _ _, (fun x h => by cases h), by simp⟩
structure PartAt (w : World) (base : Nat) (p : PartD) : Prop where
  old : BytesAt w base p.oldv p.old
  new : BytesAt w base p.cval p.cdata
theorem PartAt.below {w w' : World} {base : Nat} {p : PartD} (h : PartAt w base p) (hb : Below w.heap.size w w') : PartAt w' base p := ⟨h.old.below hb, h.new.below hb⟩
/-- The module in which files are sent. -/
structure ModD where
  nm : ByteArray
  rt : ByteArray
  wr : Bool
  sl : Int
  qu : Int
  us : Value
def ModD.val (m : ModD) : Value := .agg #[.string m.nm, .string m.rt, .bool m.wr, .int .i64 m.sl, .int .i64 m.qu, m.us]
structure PJobAt (w : World) (base j s : Nat) (m : ModD) (ps : List PartD) (over : Bool) (pv : Value) : Prop where
  hj : base ≤ j
  cell : w.heap[j]? = some (Obj.cells #[.pointer (some ⟨s, 0, none⟩), .string m.nm, .string m.rt, .bool m.wr, .int .i64 m.sl, .int .i64 m.qu, m.us, pv, .bool over] 180 (0, 0))
  row : w.ownsRow base 182 7 pv ps.length (ps.flatMap PartD.cells)
  parts : ∀ p ∈ ps, PartAt w base p
theorem PJobAt.below {w w' : World} {base j s : Nat} {m : ModD} {ps : List PartD} {over : Bool} {pv : Value} (h : PJobAt w base j s m ps over pv) (hb : Below w.heap.size w w') : PJobAt w' base j s m ps over pv :=
  ⟨h.hj, (hb.block j (lt_of_block h.cell)).trans h.cell, own_stay h.row hb, fun p hp => (h.parts p hp).below hb⟩
theorem PJobAt.mono {w : World} {base base' j s : Nat} {m : ModD} {ps : List PartD} {over : Bool} {pv : Value} (h : PJobAt w base j s m ps over pv) (hb : base' ≤ base) : PJobAt w base' j s m ps over pv :=
  ⟨Nat.le_trans hb h.hj, h.cell, own_mono h.row hb, fun p hp => ⟨(h.parts p hp).old.mono hb, (h.parts p hp).new.mono hb⟩⟩
/-- The blocks that are a job's own. -/
def jobB (j : Nat) (pv : Value) (k : Nat) : Prop := k = j ∨ pv.ownBlock = some k
theorem PJobAt.types {w : World} {base j s : Nat} {m : ModD} {ps : List PartD} {over : Bool} {pv : Value} (h : PJobAt w base j s m ps over pv) : OfTypes w (jobB j pv) [180, 182] := fun k hk hlt => by
  rcases hk with rfl | hk
  · exact ⟨_, _, _, h.cell, by simp⟩
  · rcases h.row.2 with ⟨e, _⟩ | ⟨g, cap, cur, e, _, hh, _⟩
    · rw [e] at hk; simp [Value.ownBlock] at hk
    · rw [e] at hk
      have : g = k := by simpa [Value.ownBlock] using hk
      subst this
      exact ⟨_, _, _, hh, by simp⟩
theorem PJobAt.from_ {w : World} {base j s : Nat} {m : ModD} {ps : List PartD} {over : Bool} {pv : Value} (h : PJobAt w base j s m ps over pv) : ∀ k, jobB j pv k → base ≤ k := fun k hk => by
  rcases hk with rfl | hk
  · exact h.hj
  · exact (h.row.lt k hk).1
theorem PJobAt.ne {w : World} {base j s : Nat} {m : ModD} {ps : List PartD} {over : Bool} {pv : Value} (h : PJobAt w base j s m ps over pv) : pv.ownBlock ≠ some j := fun e => by
  rcases h.row.2 with ⟨e2, _⟩ | ⟨g, cap, cur, e2, _, hh, _⟩
  · rw [e2] at e; simp [Value.ownBlock] at e
  · rw [e2] at e
    have : g = j := by simpa [Value.ownBlock] using e
    subst this
    rw [h.cell] at hh
    injection hh with hh
    injection hh with _ hh
    exact absurd hh (by decide)
/-- A job stays while a store is worked on. -/
theorem PJobAt.frame {w w' : World} {base j s : Nat} {m : ModD} {ps : List PartD} {over : Bool} {pv : Value} (h : PJobAt w base j s m ps over pv) (hf : SFrame w w') : PJobAt w' base j s m ps over pv :=
  ⟨h.hj, hf.block j _ _ _ h.cell (by decide) (by decide) (by decide), hf.own h.row (by decide) (by decide) (by decide), fun p hp => ⟨⟨hf.own (h.parts p hp).old.1 (by decide) (by decide) (by decide), (h.parts p hp).old.2⟩, ⟨hf.own (h.parts p hp).new.1 (by decide) (by decide) (by decide), (h.parts p hp).new.2⟩⟩⟩
theorem PJobAt.store {w w' : World} {base j s : Nat} {m : ModD} {ps : List PartD} {over : Bool} {pv : Value} (h : PJobAt w base j s m ps over pv) (hf : FrB (jobB j pv) w w') {bs s' g b pm now : Nat} {F : List FileS} {L : List Int} (hs : StoreAt w bs s' g b pm now F L) : StoreAt w' bs s' g b pm now F L :=
  hf.store h.types (by decide) (by decide) (by decide) (by decide) hs
theorem PJobAt.cells {w : World} {base j s : Nat} {m : ModD} {ps : List PartD} {over : Bool} {pv : Value} (h : PJobAt w base j s m ps over pv) : w.cell? ⟨j, 0, none⟩ = some (.pointer (some ⟨s, 0, none⟩)) ∧ w.cell? ⟨j, 2, none⟩ = some (.string m.rt) ∧ w.cell? ⟨j, 5, none⟩ = some (.int .i64 m.qu) ∧ w.cell? ⟨j, 7, none⟩ = some pv ∧ w.cell? ⟨j, 8, none⟩ = some (.bool over) := by
  refine ⟨?_, ?_, ?_, ?_, ?_⟩ <;> simp [World.cell?, h.cell]
/-- The cells of the parts. -/
theorem PJobAt.form {w : World} {base j s : Nat} {m : ModD} {ps : List PartD} {over : Bool} {pv : Value} (h : PJobAt w base j s m ps over pv) (hn : 0 < ps.length) : ∃ g c, pv = .slice (some ⟨g, 0, none⟩) ps.length c ∧ ps.length ≤ c ∧ ∀ k (hk : k < ps.length) i, i < 7 → w.cell? ⟨g, k * 7 + i, none⟩ = (ps[k].cells)[i]? := by
  obtain ⟨g, o, c, e, hc, _, _, hcell⟩ := (OffRow.of h.row).form hn
  rcases h.row.2 with ⟨_, h0⟩ | ⟨g', cap, cur, e2, _, hh, _⟩
  · omega
  · have e3 := e.symm.trans e2
    injection e3 with e3 _ e4
    injection e3 with e3
    injection e3 with e3 e5
    subst e3 e4 e5
    refine ⟨g, c, e, hc, fun k hk i hi => ?_⟩
    have := hcell (k * 7 + i) (by omega)
    rw [Nat.zero_add] at this
    rw [this, flatG_get PartD.cells_len ps k hk i hi]
theorem PJobAt.slice {w : World} {base j s : Nat} {m : ModD} {ps : List PartD} {over : Bool} {pv : Value} (h : PJobAt w base j s m ps over pv) : ∃ A c, pv = .slice A ps.length c ∧ ps.length ≤ c := by
  rcases h.row.2 with ⟨e, h0⟩ | ⟨g, cap, cur, e, _, _, hc, _⟩
  · exact ⟨none, 0, by rw [h0]; exact e, by omega⟩
  · exact ⟨_, _, e, hc⟩
end Go.Proofs.YtkplkienbgoofaaGreatDoor

namespace Go.Proofs.YtkplkienbgoofaaGreatDoor
open Go.RowKit Go.Maps Go.WideMaps Go.WideAt
theorem strs_app1 (l : List ByteArray) (p : ByteArray) : strs (l ++ [p]) = strs l ++ [.string p] := by rw [strs, List.map_append]; rfl
theorem fault_here (w : World) (p : Int) (e : Int) : FaultAt (w.alloc (.cells #[.int .i64 p, .int .i64 e] 176)) w.heap.size p e := ⟨by simp, by simp, _, _, heap_alloc_new _ _⟩
def badP (rt n : ByteArray) : Bool := (checkB (joinB rt n)).isSome || n.toList.isEmpty
def joinGo (rt : ByteArray) : Nat → List ByteArray → Option Nat
  | _, [] => none
  | i, n :: t => if badP rt n then some i else joinGo rt (i + 1) t
def pathsE (rt : ByteArray) (ns : List ByteArray) : GErr := match joinGo rt 0 ns with
  | some i => .fault i 90
  | none => (setGo 0 [] (ns.map (joinB rt))).err
theorem join_le {a b : ByteArray} (ha : a.size ≤ 1000) (hb : b.size ≤ 1000) : (joinB a b).size ≤ 3000 := by
  unfold joinB
  split
  · omega
  · simp only [ByteArray.size_append]
    have : (⟨#[47]⟩ : ByteArray).size = 1 := rfl
    omega
def PathsPost (rt : ByteArray) (ns : List ByteArray) (w : World) (e : Ending) (w' : World) : Prop :=
  Below w.heap.size w w' ∧ ((pathsE rt ns = .nil ∧ ∃ v, e = .returned (.tuple #[v, .nilIface]) ∧ w'.ownsRow w.heap.size 9 1 v ns.length (strs (ns.map (joinB rt)))) ∨
    (pathsE rt ns ≠ .nil ∧ ∃ t u, e = .returned (.tuple #[.slice none 0 0, .iface t u]) ∧ ErrV w' (.iface t u) (pathsE rt ns)))
set_option maxRecDepth 100000 in
set_option maxHeartbeats 4000000 in
theorem ppaths_any (m : ModD) (A : Option Addr) (c : Nat) (ns : List ByteArray) (w : World) (hl : ns.length ≤ 1000) (hc : TextRow w A ns) (hz : ∀ s ∈ ns, s.size ≤ 1000) (hrt : m.rt.size ≤ 1000) (hg : EnvM w) :
    Calls Tryz.prog 42 #[m.val, .slice A ns.length c] w (PathsPost m.rt ns w) := by
  obtain ⟨nm, rt, wr, sl, qu, us⟩ := m
  simp only at hrt
  have HC := Lib.hid hc
  have HZ := Lib.hid hz
  have HG := Lib.hid hg
  have hb0 := below_one w (.cells #[.string nm, .string rt, .bool wr, .int .i64 sl, .int .i64 qu, us] 36)
  have hn0 := heap_alloc_new w (.cells #[.string nm, .string rt, .bool wr, .int .i64 sl, .int .i64 qu, us] 36)
  have hs0 : (w.alloc (.cells #[.string nm, .string rt, .bool wr, .int .i64 sl, .int .i64 qu, us] 36)).heap.size = w.heap.size + 1 := by simp
  obtain ⟨j0, hj0, hjz0, hjz1, hjz2⟩ := info_parts infoTxt
  show Calls Tryz.prog 42 #[.agg #[.string nm, .string rt, .bool wr, .int .i64 sl, .int .i64 qu, us], .slice A ns.length c] w (PathsPost rt ns w)
  clear hc hz hg
  go_enter Tryz.func42, Tryz.ntmps42
  go_wp2_with fail
  generalize hW0 : w.alloc (.cells #[.string nm, .string rt, .bool wr, .int .i64 sl, .int .i64 qu, us] 36) = W0 at *
  have HB0 := Lib.hid hb0
  have HN0 := Lib.hid hn0
  clear hb0 hn0 hW0
  go_loopw [6, 15] (fun ov i wr => ∃ k : Nat, k ≤ ns.length ∧ i = .int .i64 k ∧ wr.ownsRow W0.heap.size 9 1 ov k (strs ((ns.take k).map (joinB rt))) ∧ Below W0.heap.size W0 wr ∧ joinGo rt 0 ns = joinGo rt k (ns.drop k)) (fun _ i _ => ns.length - (intOf i).toNat)
  case atStart => exact ⟨0, by omega, rfl, ⟨rfl, .inl ⟨rfl, rfl⟩⟩, Below.refl _ _, rfl⟩
  case round =>
    obtain ⟨k, hk, rfl, how, hbw, hgo⟩ := hrel
    obtain ⟨wk, rfl⟩ : ∃ W, W = wr := ⟨wr, rfl⟩
    have HOW := Lib.hid how
    have HBW := Lib.hid hbw
    have HBT := Lib.hid (below_from HB0.out (hbw.mono (Nat.le_refl _)))
    have hszk := hbw.size
    by_cases hlt : k < ns.length
    · obtain ⟨ad, rfl, hT⟩ := (HC.out.below HBT.out) (by omega)
      have x1 := hT k hlt
      have hdr : ns.drop k = ns[k] :: ns.drop (k + 1) := List.drop_eq_getElem_cons hlt
      have hps := HZ.out ns[k] (List.getElem_mem hlt)
      have htk : strs ((ns.take (k + 1)).map (joinB rt)) = strs ((ns.take k).map (joinB rt)) ++ [.string (joinB rt ns[k])] := by
        rw [List.take_succ_eq_append_getElem hlt, List.map_append, List.map_cons, List.map_nil, strs_app1]
      rw [hdr, joinGo] at hgo
      obtain ⟨p, hp⟩ : ∃ p, p = ns[k] := ⟨_, rfl⟩
      rw [← hp] at x1 hgo hps htk
      have hmo := block_below HN0.out hbw
      have x2 : wk.cell? ⟨w.heap.size, 1, none⟩ = some (.string rt) := by simp [World.cell?, hmo]
      have HGO := Lib.hid hgo
      have HTK := Lib.hid htk
      clear hT hdr hgo htk hp how hbw hmo
      go_wp2_with fail
      cases hck : checkB (joinB rt p) with
      | some q =>
        have HGK : Hid (pathsE rt ns = .fault k 90) := Lib.hid (by rw [pathsE, HGO.out, badP, hck]; rfl)
        refine (join_bad rt p q wk (by omega) (by omega) (by omega) (HG.out.below HBT.out) hck).mono ?_
        rintro e w2 ⟨f, rfl, _, hb2⟩
        have HB2 := Lib.hid (below_from HBT.out hb2)
        clear hb2 hck
        go_wp2_with fail
        go_ret2
        exact ⟨below_from HB2.out (below_one w2 _), .inr ⟨(by rw [HGK.out]; intro h; cases h), _, _, rfl, (by rw [HGK.out]; exact ⟨_, rfl, fault_here _ _ _⟩)⟩⟩
      | none =>
        refine (join_ok rt p wk (by omega) (by omega) (by omega) (HG.out.below HBT.out) hck).mono ?_
        rintro e w2 ⟨rfl, hb2⟩
        have HB2 := Lib.hid (below_from HBT.out hb2)
        have HBW2 := Lib.hid (below_from HBW.out hb2)
        have hsz2 := hb2.size
        have HOW2 := Lib.hid (own_stay HOW.out hb2)
        clear hb2
        cases hem : p.toList.isEmpty with
        | true =>
          have HGK : Hid (pathsE rt ns = .fault k 90) := Lib.hid (by rw [pathsE, HGO.out, badP, hck, hem]; rfl)
          clear hck
          go_wp2_with fail
          go_ret2
          exact ⟨below_from HB2.out (below_one w2 _), .inr ⟨(by rw [HGK.out]; intro h; cases h), _, _, rfl, (by rw [HGK.out]; exact ⟨_, rfl, fault_here _ _ _⟩)⟩⟩
        | false =>
          have HGN : Hid (joinGo rt 0 ns = joinGo rt (k + 1) (ns.drop (k + 1))) := Lib.hid (by rw [HGO.out, if_neg (by rw [badP, hck, hem]; decide)])
          have HOWA := Lib.hid (own_stay HOW2.out (below_one w2 (.cells #[.string (joinB rt p)] 9)))
          generalize hxs : strs ((ns.take k).map (joinB rt)) = xs at *
          have hxl : xs.length = k := by rw [← hxs]; simp [strs]; omega
          generalize joinB rt p = jp at *
          have HXS := Lib.hid hxs
          have HXL := Lib.hid hxl
          clear hck hxs hxl
          go_wp2_with (at_builtin; go_loud (refine wpList_append_own _ rfl (.tmp 37) (.tmp 39) 49 rfl W0.heap.size 9 j0 (.string ⟨#[]⟩) 1 16 Tryz.underlying49 hj0 hjz0 hjz1 hjz2 rfl (by decide) u6 k xs (by simp [Act.eval, Act.put]) HOWA.out ⟨w2.heap.size, 0, none⟩ 1 1 [.string jp] (by simp [Act.eval, Act.put]) rfl (cell_one_new _ _ _) (fun u hu => by (simp at hu; subst hu; rfl)) (by unfold maxLen; omega) (by omega) (by simp; omega) ?_); intro v5 w5 hown5 hg5 _)
          have HB6 := Lib.hid ((HBW2.out.trans ((below_one w2 (.cells #[.string jp] 9)).mono HBW2.out.size)).grown hg5 (by simp; omega) (fun j hj => (HOWA.out.lt j hj).1))
          have hfin : w5.ownsRow W0.heap.size 9 1 v5 (k + 1) (strs ((ns.take (k + 1)).map (joinB rt))) := by
            rw [HTK.out]
            exact hown5
          have HFIN := Lib.hid hfin
          clear hown5 hg5 hfin
          go_roundw
          case rel => exact ⟨k + 1, by omega, by go_num, HFIN.out, HB6.out, HGN.out⟩
          case measure => simp [intOf]; omega
    · obtain rfl : k = ns.length := by omega
      rw [List.take_length] at how
      rw [List.drop_length, joinGo] at hgo
      have hrow : wk.ownsRow W0.heap.size 9 1 u6 (ns.map (joinB rt)).length (strs (ns.map (joinB rt))) := by rw [List.length_map]; exact how
      obtain ⟨A2, c2, rfl, hc2, ht2⟩ := own_row hrow
      have HE : Hid (pathsE rt ns = (setGo 0 [] (ns.map (joinB rt))).err) := Lib.hid (by rw [pathsE, hgo])
      have hzz : ∀ s ∈ ns.map (joinB rt), s.size ≤ 140737488351232 := fun s hs => by
        obtain ⟨x, hx, rfl⟩ := List.mem_map.1 hs
        have := join_le hrt (HZ.out x hx)
        omega
      have HSET := Lib.hid (set_any A2 c2 (ns.map (joinB rt)) wk (by rw [List.length_map]; exact hl) ht2 hzz (HG.out.below HBT.out))
      rw [List.length_map] at HSET ⊢
      have hows : (wk.ownsRow w.heap.size 9 1 (.slice A2 ns.length c2) ns.length (strs (ns.map (joinB rt)))) := by
        have h := own_mono (b' := w.heap.size) how (by omega)
        rw [List.length_map] at h
        exact h
      have HOWS := Lib.hid hows
      clear how hbw hgo hrow ht2 hzz hows
      go_wp2_with fail
      refine HSET.out.mono ?_
      rintro e w3 ⟨hb3, v3, er3, rfl, hev, _⟩
      have HB3 := Lib.hid (below_from HBT.out hb3)
      have HOW3 := Lib.hid (own_stay HOWS.out hb3)
      rw [← HE.out] at hev
      clear hb3
      by_cases hnil : pathsE rt ns = .nil
      · rw [hnil] at hev
        obtain rfl : er3 = .nilIface := hev
        have HNIL := Lib.hid hnil
        clear hnil
        go_wp2_with fail
        go_ret2
        exact ⟨HB3.out, .inl ⟨HNIL.out, _, rfl, HOW3.out⟩⟩
      · obtain ⟨te, ue, rfl⟩ := errV_iface hev hnil
        have HNIL := Lib.hid hnil
        have HEV := Lib.hid hev
        clear hnil hev
        go_wp2_with fail
        go_ret2
        exact ⟨HB3.out, .inr ⟨HNIL.out, _, _, rfl, HEV.out⟩⟩
end Go.Proofs.YtkplkienbgoofaaGreatDoor

namespace Go.Proofs.YtkplkienbgoofaaGreatDoor
open Go.RowKit Go.Maps Go.WideMaps Go.WideAt
/-- A file that is to be sent: what there was. -/
def partN (p : ByteArray) (ov : Value) (d : List Int) : PartD := ⟨p, ov, d, false, false, ⟨#[]⟩, .slice none 0 0, [], false⟩
/-- What there was at each path. -/
structure Begun (now : Nat) (F : List FileS) (L : List Int) (paths : List ByteArray) (ps : List PartD) : Prop where
  path : ps.map PartD.path = paths
  each : ∀ p ∈ ps, (∃ ov, p = partN p.path ov p.old) ∧ p.old = (readV now F L now p.path).1
theorem Begun.nil (now : Nat) (F : List FileS) (L : List Int) : Begun now F L [] [] := ⟨rfl, fun p h => by cases h⟩
theorem Begun.snoc {now : Nat} {F : List FileS} {L : List Int} {paths : List ByteArray} {ps : List PartD} (h : Begun now F L paths ps) (p : ByteArray) (ov : Value) {d : List Int} (hd : d = (readV now F L now p).1) : Begun now F L (paths ++ [p]) (ps ++ [partN p ov d]) := by
  refine ⟨by rw [List.map_append, h.path]; rfl, fun x hx => ?_⟩
  rcases List.mem_append.1 hx with hx | hx
  · exact h.each x hx
  · rw [List.mem_singleton.1 hx]
    exact ⟨⟨ov, rfl⟩, hd⟩
/-- A job in memory that grows by a part. -/
theorem PJobAt.app {w4 w5 : World} {base j s : Nat} {m : ModD} {ps : List PartD} {over : Bool} {pv pv' : Value} {p : PartD} (h : PJobAt w4 base j s m ps over pv) (hg : PartAt w4 base p) (ho : w5.ownsRow base 182 7 pv' (ps.length + 1) (ps.flatMap PartD.cells ++ p.cells)) (hgr : w4.grownBy w5 pv.ownBlock) (hl : pv'.ownBlock = pv.ownBlock ∨ pv'.ownBlock = some w4.heap.size) :
    PJobAt (w5.setCell ⟨j, 7, none⟩ pv') base j s m (ps ++ [p]) over pv' ∧ w5.heap[j]? = some (Obj.cells #[.pointer (some ⟨s, 0, none⟩), .string m.nm, .string m.rt, .bool m.wr, .int .i64 m.sl, .int .i64 m.qu, m.us, pv, .bool over] 180 (0, 0)) := by
  have hT : OfTypes w4 (fun k => pv.ownBlock = some k) [182] := fun k hk hlt => by
    rcases h.row.2 with ⟨e, _⟩ | ⟨g, cap, cur, e, _, hh, _⟩
    · rw [e] at hk; simp [Value.ownBlock] at hk
    · rw [e] at hk
      have : g = k := by simpa [Value.ownBlock] using hk
      subst this
      exact ⟨_, _, _, hh, by simp⟩
  have hf : FrB (fun k => pv.ownBlock = some k) w4 w5 := FrB.of_grown hgr (fun b hb _ => hb)
  have hc5 := hf.at_ h.cell (hT.cells h.cell (by decide))
  have hs : FrB (fun k => k = j) w5 (w5.setCell ⟨j, 7, none⟩ pv') := FrB.set pv' rfl
  have hTe : OfTypes w5 (fun k => k = j) [180] := fun k hk _ => by
    subst hk
    exact ⟨_, _, _, hc5, by simp⟩
  have hb1 : ∀ {v : Value} {d : List Int}, BytesAt w4 base v d → BytesAt (w5.setCell ⟨j, 7, none⟩ pv') base v d := fun {v d} hb => by
    have h5 := hb.fr hf (hT.row hb.1 (by decide))
    exact h5.fr hs (hTe.row h5.1 (by decide))
  refine ⟨⟨h.hj, by rw [heap_setCell_same w5 j 7 _ _ _ hc5]; rfl, ?_, fun x hx => ?_⟩, hc5⟩
  · refine hs.own ?_ (hTe.row ho (by decide))
    rw [List.length_append, List.length_singleton, List.flatMap_append, List.flatMap_singleton]
    exact ho
  · rcases List.mem_append.1 hx with hx | hx
    · exact ⟨hb1 (h.parts x hx).old, hb1 (h.parts x hx).new⟩
    · rw [List.mem_singleton.1 hx]; exact ⟨hb1 hg.old, hb1 hg.new⟩
/-- Is it refused to begin, and why? -/
def newE (m : ModD) (ns : List ByteArray) : GErr := if !m.wr then .errno 170 else if ns.length = 0 ∨ 16 < ns.length then .errno 1 else pathsE m.rt ns
def PNewPost (s g b pm now : Nat) (F : List FileS) (L : List Int) (m : ModD) (ns : List ByteArray) (w : World) (e : Ending) (w' : World) : Prop :=
  Below w.heap.size w w' ∧ ((newE m ns ≠ .nil ∧ ∃ t u, e = .returned (.tuple #[.pointer none, .iface t u]) ∧ ErrV w' (.iface t u) (newE m ns)) ∨
    (newE m ns = .nil ∧ ∃ j pv ps, e = .returned (.tuple #[.pointer (some ⟨j, 0, none⟩), .nilIface]) ∧ PJobAt w' w.heap.size j s m ps false pv ∧ Begun now F L (ns.map (joinB m.rt)) ps))
theorem src_seven (w : World) (a b : Value) (t : TypeId) : ∀ (j : Nat) u, ([a, b, .bool false, .bool false, .string ⟨#[]⟩, .slice none 0 0, .bool false] : List Value)[j]? = some u → (w.alloc (.cells #[a, b, .bool false, .bool false, .string ⟨#[]⟩, .slice none 0 0, .bool false] t)).cell? ((⟨w.heap.size, 0, none⟩ : Addr).add j) = some u := fun j u h => by
  rw [Addr.add_lit, World.cell?_alloc_at _ _ _ _ rfl]
  simpa using h
theorem bytes_own {w : World} {base : Nat} {v : Value} {d : List Int} (h : w.ownsRow base 5 1 v d.length (u8V d)) (hw : ∀ x ∈ d, (Lit.int .u8 x).wf = true) (hl : d.length ≤ 300000) : BytesAt w base v d := ⟨h, hw, hl⟩
theorem newE_nil {m : ModD} {ns : List ByteArray} (h : newE m ns = .nil) : m.wr = true ∧ 0 < ns.length ∧ ns.length ≤ 16 ∧ pathsE m.rt ns = .nil := by
  unfold newE at h
  cases hw : m.wr with
  | false => rw [hw] at h; cases h
  | true =>
    rw [hw, if_neg (by decide)] at h
    by_cases hn : ns.length = 0 ∨ 16 < ns.length
    · rw [if_pos hn] at h; cases h
    · rw [if_neg hn] at h
      exact ⟨rfl, by omega, by omega, h⟩
set_option maxRecDepth 100000 in
set_option maxHeartbeats 8000000 in
theorem push_new (s g b pm now : Nat) (F : List FileS) (L : List Int) (m : ModD) (A : Option Addr) (c : Nat) (ns : List ByteArray) (w : World) {base : Nat} (hl : ns.length ≤ 1000) (hc : TextRow w A ns) (hz : ∀ s ∈ ns, s.size ≤ 1000) (hrt : m.rt.size ≤ 1000) (hm : mapN F ≤ 80000) (hnow : now ≤ 2097152) (hdat : ∀ p, (readV now F L now p).1.length ≤ 300000 ∧ ∀ x ∈ (readV now F L now p).1, (Lit.int .u8 x).wf = true) (hst : StoreAt w base s g b pm now F L) (hg : EnvM w) :
    Calls Tryz.prog 43 #[.pointer (some ⟨s, 0, none⟩), m.val, .slice A ns.length c] w (PNewPost s g b pm now F L m ns w) := by
  obtain ⟨nm, rt, wr, sl, qu, us⟩ := m
  simp only at hrt
  have HST := Lib.hid hst
  have HC := Lib.hid hc
  have HZ := Lib.hid hz
  have HG := Lib.hid hg
  have HDAT := Lib.hid hdat
  have hb0 := below_one w (.cells #[.string nm, .string rt, .bool wr, .int .i64 sl, .int .i64 qu, us] 36)
  have hn0 := heap_alloc_new w (.cells #[.string nm, .string rt, .bool wr, .int .i64 sl, .int .i64 qu, us] 36)
  have hs0 : (w.alloc (.cells #[.string nm, .string rt, .bool wr, .int .i64 sl, .int .i64 qu, us] 36)).heap.size = w.heap.size + 1 := by simp
  show Calls Tryz.prog 43 #[.pointer (some ⟨s, 0, none⟩), .agg #[.string nm, .string rt, .bool wr, .int .i64 sl, .int .i64 qu, us], .slice A ns.length c] w (PNewPost s g b pm now F L ⟨nm, rt, wr, sl, qu, us⟩ ns w)
  clear hst hc hz hg hdat
  cases wr with
  | false =>
    have HE : Hid (newE ⟨nm, rt, false, sl, qu, us⟩ ns = .errno 170) := Lib.hid rfl
    go_enter Tryz.func43, Tryz.ntmps43
    go_wp2_with fail
    go_ret2
    exact ⟨hb0, .inl ⟨(by rw [HE.out]; intro h; cases h), _, _, rfl, (by rw [HE.out]; rfl)⟩⟩
  | true =>
    by_cases hn : ns.length = 0 ∨ 16 < ns.length
    · have HE : Hid (newE ⟨nm, rt, true, sl, qu, us⟩ ns = .errno 1) := Lib.hid (by unfold newE; rw [if_neg (by simp), if_pos hn])
      rcases hn with hn | hn
      · have e1 : ((ns.length : Int) == 0) = true := by rw [hn]; rfl
        have HN := Lib.hid hn
        clear hn
        go_enter Tryz.func43, Tryz.ntmps43
        go_wp2_with fail
        go_ret2
        exact ⟨hb0, .inl ⟨(by rw [HE.out]; intro h; cases h), _, _, rfl, (by rw [HE.out]; rfl)⟩⟩
      · have e1 : ((ns.length : Int) == 0) = false := by rw [beq_eq_false_iff_ne]; omega
        have e2 : decide ((16 : Int) < (ns.length : Int)) = true := by simp; omega
        go_enter Tryz.func43, Tryz.ntmps43
        go_wp2_with fail
        go_ret2
        exact ⟨hb0, .inl ⟨(by rw [HE.out]; intro h; cases h), _, _, rfl, (by rw [HE.out]; rfl)⟩⟩
    · have HE : Hid (newE ⟨nm, rt, true, sl, qu, us⟩ ns = pathsE rt ns) := Lib.hid (by unfold newE; rw [if_neg (by simp), if_neg hn])
      have e1 : ((ns.length : Int) == 0) = false := by rw [beq_eq_false_iff_ne]; omega
      have e2 : decide ((16 : Int) < (ns.length : Int)) = false := by simp; omega
      have hn16 : ns.length ≤ 16 := by omega
      have HPP := Lib.hid (ppaths_any ⟨nm, rt, true, sl, qu, us⟩ A c ns (w.alloc (.cells #[.string nm, .string rt, .bool true, .int .i64 sl, .int .i64 qu, us] 36)) hl (HC.out.below hb0) HZ.out hrt (HG.out.below hb0))
      obtain ⟨j0, hj0, hjz0, hjz1, hjz2⟩ := info_parts infoPart
      have HN0 := Lib.hid hn0
      have HB0 := Lib.hid hb0
      clear hn hn0 hb0
      go_enter Tryz.func43, Tryz.ntmps43
      go_wp2_with fail
      generalize hW0 : w.alloc (.cells #[.string nm, .string rt, .bool true, .int .i64 sl, .int .i64 qu, us] 36) = W0 at *
      refine HPP.out.mono ?_
      rintro e w1 ⟨hb1, ⟨hnil, v, rfl, how⟩ | ⟨hne, t, u, rfl, hev⟩⟩
      · have hn1 := block_below HN0.out hb1
        obtain ⟨A2, c2, rfl, hc2, ht2⟩ := own_row (xs := ns.map (joinB rt)) (by rw [List.length_map]; exact how)
        have y0 : w1.cell? ⟨w.heap.size, 0, none⟩ = some (.string nm) := by simp [World.cell?, hn1]
        have y1 : w1.cell? ⟨w.heap.size, 1, none⟩ = some (.string rt) := by simp [World.cell?, hn1]
        have y2 : w1.cell? ⟨w.heap.size, 2, none⟩ = some (.bool true) := by simp [World.cell?, hn1]
        have y3 : w1.cell? ⟨w.heap.size, 3, none⟩ = some (.int .i64 sl) := by simp [World.cell?, hn1]
        have y4 : w1.cell? ⟨w.heap.size, 4, none⟩ = some (.int .i64 qu) := by simp [World.cell?, hn1]
        have y5 : w1.cell? ⟨w.heap.size, 5, none⟩ = some us := by simp [World.cell?, hn1]
        have HNIL : Hid (newE ⟨nm, rt, true, sl, qu, us⟩ ns = .nil) := Lib.hid (by rw [HE.out]; exact hnil)
        have HB1 := Lib.hid (below_from HB0.out hb1)
        have hbj := below_one w1 (.cells #[.pointer (some ⟨s, 0, none⟩), .string nm, .string rt, .bool true, .int .i64 sl, .int .i64 qu, us, .slice none 0 0, .bool false] 180)
        have hnj := heap_alloc_new w1 (.cells #[.pointer (some ⟨s, 0, none⟩), .string nm, .string rt, .bool true, .int .i64 sl, .int .i64 qu, us, .slice none 0 0, .bool false] 180)
        have hjat : PJobAt (w1.alloc (.cells #[.pointer (some ⟨s, 0, none⟩), .string nm, .string rt, .bool true, .int .i64 sl, .int .i64 qu, us, .slice none 0 0, .bool false] 180)) w1.heap.size w1.heap.size s ⟨nm, rt, true, sl, qu, us⟩ [] false (.slice none 0 0) := ⟨Nat.le_refl _, hnj, World.ownsRow_nil _ _ _ _, fun p hp => by cases hp⟩
        have HJAT := Lib.hid hjat
        have HT1 := Lib.hid ht2
        have HBJ := Lib.hid hbj
        have HB2 := Lib.hid (below_from HB1.out hbj)
        rw [List.length_map] at hc2 ⊢
        clear hnil hb1 how ht2 hn1 hbj hnj hjat
        go_wp2_with fail
        go_loopw [45] (fun i wr => ∃ (k : Nat) (ps : List PartD) (pv : Value), k ≤ ns.length ∧ i = .int .i64 k ∧ PJobAt wr w1.heap.size w1.heap.size s ⟨nm, rt, true, sl, qu, us⟩ ps false pv ∧ Begun now F L ((ns.take k).map (joinB rt)) ps ∧ ps.length = k ∧ Below w1.heap.size w1 wr) (fun i _ => ns.length - (intOf i).toNat)
        case atStart => exact ⟨0, [], _, by omega, rfl, HJAT.out, Begun.nil _ _ _, rfl, HBJ.out⟩
        case round =>
          obtain ⟨k, ps, pv, hk, rfl, hjb, hbe, hpl, hbw⟩ := hrel
          obtain ⟨wk, rfl⟩ : ∃ W, W = wr := ⟨wr, rfl⟩
          have HJB := Lib.hid hjb
          have HBE := Lib.hid hbe
          have HPL := Lib.hid hpl
          have HBW := Lib.hid hbw
          have HBT := Lib.hid (HB1.out.trans (hbw.mono HB1.out.size))
          have hszk := hbw.size
          by_cases hlt : k < ns.length
          · have hlm : k < (ns.map (joinB rt)).length := by rw [List.length_map]; exact hlt
            obtain ⟨ad, rfl, hT⟩ := (HT1.out.below hbw) (by omega)
            have x1 := hT k hlm
            have htk : (ns.take (k + 1)).map (joinB rt) = (ns.take k).map (joinB rt) ++ [(ns.map (joinB rt))[k]] := by
              rw [List.take_succ_eq_append_getElem hlt, List.map_append, List.map_cons, List.map_nil, List.getElem_map]
            have hps : (ns.map (joinB rt))[k].size ≤ 3000 := by
              rw [List.getElem_map]
              exact join_le hrt (HZ.out _ (List.getElem_mem hlt))
            obtain ⟨p, hp⟩ : ∃ p, p = (ns.map (joinB rt))[k] := ⟨_, rfl⟩
            rw [← hp] at x1 htk hps
            have HTK := Lib.hid htk
            have HSK := Lib.hid (HST.out.below HBT.out)
            obtain ⟨c0, _, _⟩ := store_cells HSK.out
            obtain ⟨d, kk, hrv⟩ : ∃ d kk, readV now F L now p = (d, kk) := ⟨_, _, rfl⟩
            have HRV := Lib.hid hrv
            have hdat := HDAT.out p
            rw [hrv] at hdat
            have hdl := hdat.1
            have HDW := Lib.hid hdat.2
            have hwf : (Lit.int .i64 (now : Int)).wf = true := by simp [Lit.wf, IntKind.min, IntKind.max, IntKind.signed, IntKind.bits]; omega
            clear hT htk hp hjb hbe hpl hbw hrv hdat
            go_wp2_with fail
            refine (now_any g b now F wk HSK.out.tree).mono ?_
            rintro e wa ⟨rfl, h'⟩
            replace h' := h'.symm
            subst h'
            go_wp2_with fail
            refine (sread_any s g b pm now F L now p d kk wk hwf (by unfold maxLen; omega) (by omega) HSK.out HRV.out).mono ?_
            rintro e w2 ⟨A3, c3, rfl, _, hown, hb2⟩
            have HB2 := Lib.hid (below_from HBW.out hb2)
            have hsz2 := hb2.size
            have HJ2 := Lib.hid (HJB.out.below hb2)
            obtain ⟨Ap, cp, hpv, _⟩ := HJ2.out.slice
            have HPV := Lib.hid hpv
            have q7 : w2.cell? ⟨w1.heap.size, 7, none⟩ = some (.slice Ap ps.length cp) := by rw [← hpv]; exact HJ2.out.cells.2.2.2.1
            have hq7 := HPL.out
            rw [hpv] at HJ2
            have hba := below_one w2 (.cells #[.string p, .slice A3 d.length c3, .bool false, .bool false, .string ⟨#[]⟩, .slice none 0 0, .bool false] 182)
            have hsrc := src_seven w2 (.string p) (.slice A3 d.length c3) 182
            have HSRC := Lib.hid hsrc
            have HJA := Lib.hid (HJ2.out.below hba)
            have HPA : Hid (PartAt (w2.alloc (.cells #[.string p, .slice A3 d.length c3, .bool false, .bool false, .string ⟨#[]⟩, .slice none 0 0, .bool false] 182)) w1.heap.size (partN p (.slice A3 d.length c3) d)) := Lib.hid ⟨(bytes_own (own_mono hown hszk) HDW.out hdl).below hba, bytesAt_nil _ _⟩
            have HBA := Lib.hid (below_from HB2.out hba)
            have hpl16 : ps.length ≤ 16 := by omega
            have hszA : (w2.alloc (.cells #[.string p, .slice A3 d.length c3, .bool false, .bool false, .string ⟨#[]⟩, .slice none 0 0, .bool false] 182)).heap.size = w2.heap.size + 1 := by simp
            clear hown hb2 hba hsrc hpv hq7
            go_wp2_with (at_builtin; refine wpList_append_own_at _ rfl (.tmp 64) (.tmp 68) 178 rfl w1.heap.size 182 j0 partV 7 96 Tryz.underlying178 hj0 hjz0 hjz1 hjz2 rfl (by decide) (.slice Ap ps.length cp) ps.length (ps.flatMap PartD.cells) (by simp [Act.eval, Act.put]) HJA.out.row ⟨w2.heap.size, 0, none⟩ 1 1 [.string p, .slice A3 d.length c3, .bool false, .bool false, .string ⟨#[]⟩, .slice none 0 0, .bool false] (by simp [Act.eval, Act.put]) rfl HSRC.out (by simp [Value.oneCell']) (by unfold maxLen; omega) (by omega) (by omega) ?_; intro v5 w5 hown5 hg5 _ hl5; obtain ⟨A5, c5, rfl⟩ := own_slice hown5; obtain ⟨hj5, hc5⟩ := HJA.out.app (p := partN p (.slice A3 d.length c3) d) HPA.out hown5 hg5 hl5; have q5 : w5.cell? ⟨w1.heap.size, 7, none⟩ = some (.slice Ap ps.length cp) := (by simp [World.cell?, hc5]); have f5 : w5.frozen? ⟨w1.heap.size, 7, none⟩ = false := frozen_of_row _ _ 7 _ _ hc5; have HJ5 := Lib.hid hj5; have HB5 := Lib.hid ((HBA.out.grown hg5 (by omega) (fun j hj => (HJA.out.row.lt j hj).1)).setCell (p := ⟨w1.heap.size, 7, none⟩) (Nat.le_refl _) (.slice A5 (ps.length + 1) c5)); clear hown5 hg5 hl5 hj5 hc5 q7)
            go_roundw
            case rel => exact ⟨k + 1, _, _, by omega, by go_num, HJ5.out, (by rw [HTK.out]; exact HBE.out.snoc p _ (by rw [HRV.out])), (by rw [List.length_append, List.length_singleton, HPL.out]), HB5.out⟩
            case measure => simp [intOf]; omega
          · obtain rfl : k = ns.length := by omega
            rw [List.take_length] at hbe
            have HBE2 := Lib.hid hbe
            clear hbe hbw hjb hpl
            go_wp2_with fail
            go_ret2
            exact ⟨HBT.out, .inr ⟨HNIL.out, _, pv, ps, rfl, HJB.out.mono HB1.out.size, HBE2.out⟩⟩
      · have HNE : Hid (newE ⟨nm, rt, true, sl, qu, us⟩ ns ≠ .nil) := Lib.hid (by rw [HE.out]; exact hne)
        have HEV := Lib.hid hev
        have HB1 := Lib.hid (below_from HB0.out hb1)
        clear hne hev hb1
        go_wp2_with fail
        go_ret2
        exact ⟨HB1.out, .inl ⟨HNE.out, _, _, rfl, by rw [HE.out]; exact HEV.out⟩⟩
end Go.Proofs.YtkplkienbgoofaaGreatDoor

namespace Go.Proofs.YtkplkienbgoofaaGreatDoor
open Go.RowKit
theorem wpList_append_clone {P : Program} {w3 : World} {ops : Array Oper} {rest : List Oper} {o : Oper} {a : Act} {Q : Exit → Act → World → Prop} (hgd : o.guard = none) (s x : Operand) (t : TypeId)
    (ho : o.op = .call { callee := .builtin .append, args := #[s, x], argTypes := #[t, t] })
    (base : Nat) (e : TypeId) (i : TypeInfo) (z : Value) (size bytes : Nat) (ht : P.underlying t = some (.slice e)) (hi : P.info? e = some i) (hz : i.zero = some z)
    (hsize : i.size = size) (hby : i.bytes = bytes) (hzs : z.cells.size = size) (hsz : 0 < size)
    (v : Value) (n : Nat) (xs : List Value) (hs : a.eval s = .slice (some ⟨w3.heap.size, 0, none⟩) 0 0) (hx : a.eval x = v) (hown : w3.ownsRow base e size v n xs) (h1 : ∀ u ∈ xs, u.oneCell' = true)
    (h63 : n ≤ maxLen) (hbytes : n * bytes ≤ 140737488355328)
    (h : ∀ v' w', w'.ownsRow w3.heap.size e size v' n xs → Below w3.heap.size w3 w' → wpList P ops Q rest (a.put o.dst v') w') : wpList P ops Q (o :: rest) a (w3.alloc (.cells #[] e)) := by
  have hown0 : (w3.alloc (.cells #[] e)).ownsRow w3.heap.size e size (.slice (some ⟨w3.heap.size, 0, none⟩) 0 0) 0 [] := World.ownsRow_lit w3 #[] 0 (Nat.le_refl _) (by simp) (by simp)
  have hb1 := below_one w3 (.cells #[] e)
  by_cases hn : 0 < n
  · obtain ⟨g, cap, rfl, _, hg⟩ := hown.form hn
    refine wpList_append_own _ hgd s x t ho w3.heap.size e i z size bytes ht hi hz hsize hby hzs hsz (.slice (some ⟨w3.heap.size, 0, none⟩) 0 0) 0 [] hs hown0 ⟨g, 0, none⟩ n cap xs hx hown.1 (fun j u hj => cell_below hb1 (hown.cells rfl j u hj)) h1 (by omega) (by simpa using hbytes) hb1.size ?_
    intro v' w' ho' hg' _
    refine h v' w' (by simpa using ho') (hb1.grown hg' hb1.size (fun k hk => ?_))
    have : w3.heap.size = k := by simpa [Value.ownBlock] using hk
    omega
  · have h0 : n = 0 := by omega
    subst h0
    have hxs : xs = [] := List.length_eq_zero_iff.1 (by simpa using hown.1)
    subst hxs
    obtain ⟨A, c, rfl⟩ : ∃ A c, v = .slice A 0 c := by
      rcases hown.2 with ⟨rfl, _⟩ | ⟨g, cap, cur, rfl, _⟩
      · exact ⟨_, _, rfl⟩
      · exact ⟨_, _, rfl⟩
    exact wpList_append_nothing hgd s x t ho e i ht hi (some ⟨w3.heap.size, 0, none⟩) 0 0 hs (Nat.le_refl _) A c hx (h _ _ hown0 hb1)
end Go.Proofs.YtkplkienbgoofaaGreatDoor

namespace Go.Proofs.YtkplkienbgoofaaGreatDoor
open Go.RowKit Go.Maps Go.WideMaps Go.WideAt
/-- May a file be sent now: why not. -/
def partC (ps : List PartD) (over : Bool) (i : Int) : Int := if over then 160 else if i < 0 ∨ (ps.length : Int) ≤ i then 1 else if (ps.getD i.toNat (partN ⟨#[]⟩ .nilIface [])).staged then 5 else 0
def PartPost (ps : List PartD) (over : Bool) (pv : Value) (i : Int) (w : World) (e : Ending) (w' : World) : Prop :=
  w' = w ∧ ((partC ps over i ≠ 0 ∧ e = .returned (.tuple #[.pointer none, .int .i64 (partC ps over i)])) ∨
    (partC ps over i = 0 ∧ over = false ∧ ∃ (n g c : Nat), i = (n : Int) ∧ n < ps.length ∧ pv = .slice (some ⟨g, 0, none⟩) ps.length c ∧ (ps.getD n (partN ⟨#[]⟩ .nilIface [])).staged = false ∧ e = .returned (.tuple #[.pointer (some ⟨g, n * 7, none⟩), .int .i64 0])))
set_option maxRecDepth 100000 in
set_option maxHeartbeats 4000000 in
theorem part_any (j s : Nat) (m : ModD) (ps : List PartD) (over : Bool) (pv : Value) (i : Int) (w : World) {base : Nat} (hps : ps.length ≤ 1000) (hj : PJobAt w base j s m ps over pv) :
    Calls Tryz.prog 77 #[.pointer (some ⟨j, 0, none⟩), .int .i64 i] w (PartPost ps over pv i w) := by
  obtain ⟨y0, _, _, y7, y8⟩ := hj.cells
  obtain ⟨A, c, rfl, hc⟩ := hj.slice
  cases over with
  | true =>
    have HC : Hid (partC ps true i = 160) := Lib.hid rfl
    clear hj
    go_enter Tryz.func77, Tryz.ntmps77
    go_wp2_with fail
    go_ret2
    exact ⟨rfl, .inl ⟨by rw [HC.out]; decide, by rw [HC.out]; rfl⟩⟩
  | false =>
    by_cases h0 : i < 0
    · have d0 : decide (i < 0) = true := decide_eq_true h0
      have HC : Hid (partC ps false i = 1) := Lib.hid (by unfold partC; rw [if_neg (by decide), if_pos (.inl h0)])
      clear hj
      go_enter Tryz.func77, Tryz.ntmps77
      go_wp2_with fail
      go_ret2
      exact ⟨rfl, .inl ⟨by rw [HC.out]; decide, by rw [HC.out]; rfl⟩⟩
    · have d0 : decide (i < 0) = false := decide_eq_false h0
      by_cases h1 : (ps.length : Int) ≤ i
      · have d1 : decide ((ps.length : Int) ≤ i) = true := decide_eq_true h1
        have HC : Hid (partC ps false i = 1) := Lib.hid (by unfold partC; rw [if_neg (by decide), if_pos (.inr h1)])
        clear hj
        go_enter Tryz.func77, Tryz.ntmps77
        go_wp2_with fail
        go_ret2
        exact ⟨rfl, .inl ⟨by rw [HC.out]; decide, by rw [HC.out]; rfl⟩⟩
      · obtain ⟨n, rfl⟩ : ∃ n : Nat, i = (n : Int) := ⟨i.toNat, by omega⟩
        have d1 : decide ((ps.length : Int) ≤ (n : Int)) = false := decide_eq_false h1
        have hn : n < ps.length := by omega
        obtain ⟨g, c', he, hc', hcell⟩ := hj.form (by omega)
        have hA : A = some ⟨g, 0, none⟩ := by injection he
        subst hA
        have z2 : w.cell? ⟨g, n * 7 + 2, none⟩ = some (.bool ps[n].staged) := hcell n hn 2 (by omega)
        have hgd : ps.getD n (partN ⟨#[]⟩ .nilIface []) = ps[n] := by simp [List.getD, hn]
        have HCC : Hid (partC ps false (n : Int) = if ps[n].staged then 5 else 0) := Lib.hid (by
          unfold partC
          rw [if_neg (by decide), if_neg (by omega), Int.toNat_natCast, hgd])
        have HGD := Lib.hid hgd
        have i0 : (0 : Int) ≤ (n : Int) := by omega
        have i1 : (n : Int) < (ps.length : Int) := by omega
        cases hs : ps[n].staged with
        | true =>
          rw [hs] at z2 HCC
          have HC : Hid (partC ps false (n : Int) = 5) := Lib.hid HCC.out
          clear hj hcell hs hgd he
          go_enter Tryz.func77, Tryz.ntmps77
          go_wp2_with fail
          go_ret2
          exact ⟨rfl, .inl ⟨by rw [HC.out]; decide, by rw [HC.out]; rfl⟩⟩
        | false =>
          rw [hs] at z2 HCC
          have HC : Hid (partC ps false (n : Int) = 0) := Lib.hid HCC.out
          have HS := Lib.hid hs
          clear hj hcell hs hgd he
          go_enter Tryz.func77, Tryz.ntmps77
          go_wp2_with fail
          go_ret2
          exact ⟨rfl, .inr ⟨HC.out, rfl, n, g, c, rfl, hn, rfl, by rw [HGD.out]; exact HS.out, rfl⟩⟩
theorem stage_world (w : World) (g o : Nat) (cur : Array Value) (cp : ByteArray) (cv : Value) (cg : Bool) (ob : Obj) (hb : w.heap[g]? = some (Obj.cells cur 182 (0, 0))) :
    w.grownBy (((((w.setCell ⟨g, o + 2, none⟩ (.bool true)).setCell ⟨g, o + 4, none⟩ (.string cp)).setCell ⟨g, o + 4 + 1, none⟩ cv).setCell ⟨g, o + 4 + 2, none⟩ (.bool cg)).alloc ob).drew (some g) ∧
    (((((w.setCell ⟨g, o + 2, none⟩ (.bool true)).setCell ⟨g, o + 4, none⟩ (.string cp)).setCell ⟨g, o + 4 + 1, none⟩ cv).setCell ⟨g, o + 4 + 2, none⟩ (.bool cg)).alloc ob).drew.heap[g]? = some (Obj.cells ((((cur.setIfInBounds (o + 2) (.bool true)).setIfInBounds (o + 4) (.string cp)).setIfInBounds (o + 5) cv).setIfInBounds (o + 6) (.bool cg)) 182 (0, 0)) := by
  have g1 := grownBy_set w g (o + 2) (.bool true)
  have h1 := heap_setCell_same w g (o + 2) cur 182 (.bool true) hb
  have g2 := grown_trans g1 (grownBy_set _ g (o + 4) (.string cp))
  have h2 := heap_setCell_same _ g (o + 4) _ 182 (.string cp) h1
  have g3 := grown_trans g2 (grownBy_set _ g (o + 4 + 1) cv)
  have h3 := heap_setCell_same _ g (o + 4 + 1) _ 182 cv h2
  have g4 := grown_trans g3 (grownBy_set _ g (o + 4 + 2) (.bool cg))
  have h4 := heap_setCell_same _ g (o + 4 + 2) _ 182 (.bool cg) h3
  have hb5 := (below_one _ ob).trans (Below.drew (Below.refl _ _)) (a := (((w.setCell ⟨g, o + 2, none⟩ (.bool true)).setCell ⟨g, o + 4, none⟩ (.string cp)).setCell ⟨g, o + 4 + 1, none⟩ cv).setCell ⟨g, o + 4 + 2, none⟩ (.bool cg))
  refine ⟨⟨hb5.os.trans g4.os, hb5.tape.trans g4.tape, hb5.output.trans g4.output, Nat.le_trans g4.size hb5.size, fun k hk hne => (hb5.block k (Nat.lt_of_lt_of_le hk g4.size)).trans (g4.block k hk hne)⟩, block_below h4 hb5⟩
set_option maxRecDepth 100000 in
set_option maxHeartbeats 4000000 in
theorem stage_any (g n : Nat) (cp : ByteArray) (cv : Value) (cg : Bool) (cur : Array Value) (u2 u4 u5 u6 : Value) (w : World) (hb : w.heap[g]? = some (Obj.cells cur 182 (0, 0))) (h2 : cur[n * 7 + 2]? = some u2) (h4 : cur[n * 7 + 4]? = some u4) (h5 : cur[n * 7 + 5]? = some u5) (h6 : cur[n * 7 + 6]? = some u6) (A : Option Addr) (l c : Nat) (hcv : cv = .slice A l c) :
    Calls Tryz.prog 78 #[.pointer (some ⟨g, n * 7, none⟩), .agg #[.string cp, cv, .bool cg]] w fun e w' => e = .returned (.tuple #[]) ∧ w.grownBy w' (some g) ∧ w'.heap[g]? = some (Obj.cells ((((cur.setIfInBounds (n * 7 + 2) (.bool true)).setIfInBounds (n * 7 + 4) (.string cp)).setIfInBounds (n * 7 + 5) cv).setIfInBounds (n * 7 + 6) (.bool cg)) 182 (0, 0)) := by
  subst hcv
  have hlt := lt_of_block hb
  have z2 : w.cell? ⟨g, n * 7 + 2, none⟩ = some u2 := by simp [World.cell?, hb, h2]
  have z4 : w.cell? ⟨g, n * 7 + 4, none⟩ = some u4 := by simp [World.cell?, hb, h4]
  have z5 : w.cell? ⟨g, n * 7 + 5, none⟩ = some u5 := by simp [World.cell?, hb, h5]
  have z6 : w.cell? ⟨g, n * 7 + 6, none⟩ = some u6 := by simp [World.cell?, hb, h6]
  have f2 : w.frozen? ⟨g, n * 7 + 2, none⟩ = false := frozen_of_row w g _ _ _ hb
  have f4 : w.frozen? ⟨g, n * 7 + 4, none⟩ = false := frozen_of_row w g _ _ _ hb
  have f5 : w.frozen? ⟨g, n * 7 + 5, none⟩ = false := frozen_of_row w g _ _ _ hb
  have f6 : w.frozen? ⟨g, n * 7 + 6, none⟩ = false := frozen_of_row w g _ _ _ hb
  go_enter Tryz.func78, Tryz.ntmps78
  go_wp2_with fail
  go_region
  all_goals
    go_wp2_with fail
    go_end0
    exact ⟨rfl, stage_world w g (n * 7) cur cp (.slice A l c) cg _ hb⟩
/-- A file of a list is set over. -/
theorem flat_set (ps : List PartD) (n : Nat) (hn : n < ps.length) (cp : ByteArray) (cv : Value) (cd : List Int) (cg : Bool) :
    (ps.set n { ps[n] with staged := true, cpath := cp, cval := cv, cdata := cd, cgone := cg }).flatMap PartD.cells = ((((ps.flatMap PartD.cells).set (n * 7 + 2) (.bool true)).set (n * 7 + 4) (.string cp)).set (n * 7 + 5) cv).set (n * 7 + 6) (.bool cg) := by
  have hlen : (ps.flatMap PartD.cells).length = ps.length * 7 := flatG_length PartD.cells_len ps
  refine List.ext_getElem? (fun x => ?_)
  by_cases hx : x < ps.length * 7
  · have hk : x / 7 < ps.length := by omega
    have hi : x % 7 < 7 := by omega
    have hxe : x / 7 * 7 + x % 7 = x := by omega
    have hL := flatG_get PartD.cells_len (ps.set n { ps[n] with staged := true, cpath := cp, cval := cv, cdata := cd, cgone := cg }) (x / 7) (by rw [List.length_set]; exact hk) (x % 7) hi
    have hR := flatG_get PartD.cells_len ps (x / 7) hk (x % 7) hi
    rw [hxe] at hL hR
    rw [hL]
    simp only [List.getElem?_set, List.length_set, hlen, List.getElem_set]
    by_cases e : n = x / 7
    · have e7 : n * 7 = x - x % 7 := by omega
      obtain ⟨i, hie⟩ : ∃ i, i = x % 7 := ⟨_, rfl⟩
      rw [← hie] at hi hR e7 ⊢
      have hx7 : x = n * 7 + i := by omega
      rw [if_pos e]
      rw [hR]
      have hpe : ps[x / 7] = ps[n] := by congr 1; exact e.symm
      rw [hpe, hx7]
      match i, hi with
      | 0, _ => simp [PartD.cells]
      | 1, _ => simp [PartD.cells]
      | 2, _ => simp [PartD.cells]; omega
      | 3, _ => simp [PartD.cells]
      | 4, _ => simp [PartD.cells]; omega
      | 5, _ => simp [PartD.cells]; omega
      | 6, _ => simp [PartD.cells]; omega
    · rw [if_neg e, hR]
      have h2 : ¬ n * 7 + 2 = x := by omega
      have h4 : ¬ n * 7 + 4 = x := by omega
      have h5 : ¬ n * 7 + 5 = x := by omega
      have h6 : ¬ n * 7 + 6 = x := by omega
      rw [if_neg h6, if_neg h5, if_neg h4, if_neg h2]
  · have hlen2 : ((ps.set n { ps[n] with staged := true, cpath := cp, cval := cv, cdata := cd, cgone := cg }).flatMap PartD.cells).length = ps.length * 7 := by rw [flatG_length PartD.cells_len, List.length_set]
    rw [List.getElem?_eq_none (by omega), List.getElem?_eq_none (by simp [hlen]; omega)]
end Go.Proofs.YtkplkienbgoofaaGreatDoor

namespace Go.Proofs.YtkplkienbgoofaaGreatDoor
open Go.RowKit Go.Maps Go.WideMaps Go.WideAt
theorem step_append_row {P : Program} {ops : Array Oper} {o : Oper} {a : Act} {W : World} {K : Act → World → Prop} {Q : Exit → Act → World → Prop} {E : Prop} (hgd : o.guard = none) (s x : Operand) (t : TypeId)
    (ho : o.op = .call { callee := .builtin .append, args := #[s, x], argTypes := #[t, t] })
    (e : TypeId) (i : TypeInfo) (z : Value) (size bytes : Nat) (ht : P.underlying t = some (.slice e)) (hi : P.info? e = some i) (hz : i.zero = some z)
    (hsize : i.size = size) (hby : i.bytes = bytes) (hzs : z.cells.size = size) (hsz : 0 < size)
    (b0 : Nat) (hs : a.eval s = .slice (some ⟨b0, 0, none⟩) 0 0) (hb0 : W.heap[b0]? = some (.cells #[] e (0, 0)))
    (A : Option Addr) (n c : Nat) (xs : List Value) (hx : a.eval x = .slice A n c) (hl : xs.length = n * size) (hc : ∀ ad, A = some ad → ∀ (j : Nat) u, xs[j]? = some u → W.cell? (ad.add j) = some u) (hA : 0 < n → ∃ ad, A = some ad) (h1 : ∀ u ∈ xs, u.oneCell' = true)
    (h63 : n ≤ maxLen) (hbytes : n * bytes ≤ 140737488355328)
    (h : ∀ v' w', w'.ownsRow b0 e size v' n xs → W.grownBy w' (some b0) → K (a.put o.dst v') w') :
    if Region.wanted o (yielded ops a.tmps) = true then Oper.wp P o a W K Q else E := by
  have hw : Region.wanted o (yielded ops a.tmps) = true := by simp [Region.wanted, hgd]
  have hown0 : W.ownsRow b0 e size (.slice (some ⟨b0, 0, none⟩) 0 0) 0 [] := ⟨by simp, .inr ⟨b0, 0, #[], rfl, Nat.le_refl _, hb0, Nat.le_refl _, Nat.zero_le _, by simp, by simp⟩⟩
  have hb0s := lt_of_block hb0
  by_cases hn : 0 < n
  · obtain ⟨ad, rfl⟩ := hA hn
    rw [if_pos hw]
    refine wp_append_own W s x t ho b0 e i z size bytes ht hi hz hsize hby hzs hsz (.slice (some ⟨b0, 0, none⟩) 0 0) 0 [] hs hown0 ad n c xs hx hl (fun j u hj => hc ad rfl j u hj) h1 (by omega) (by simpa using hbytes) (by omega) (fun v' w' h2 h3 _ => ?_)
    exact h v' w' (by simpa using h2) h3
  · have h0 : n = 0 := by omega
    subst h0
    have hxs : xs = [] := List.length_eq_zero_iff.1 (by simpa using hl)
    subst hxs
    exact step_append_nothing hgd s x t ho e i ht hi (some ⟨b0, 0, none⟩) 0 0 hs (Nat.le_refl _) A c hx (h _ _ hown0 ⟨rfl, rfl, rfl, Nat.le_refl _, fun _ _ _ => rfl⟩)
def sentP (p : PartD) (v : Value) (d : List Int) : PartD := { p with staged := true, cpath := p.path, cval := v, cdata := d, cgone := false }
/-- A job behind a file that was set over. -/
theorem PJobAt.staged {w w' : World} {base j s : Nat} {m : ModD} {ps : List PartD} {over : Bool} {g c : Nat} (h : PJobAt w base j s m ps over (.slice (some ⟨g, 0, none⟩) ps.length c)) {n : Nat} (hn : n < ps.length) {cp : ByteArray} {cv : Value} {cd : List Int} {cg : Bool} {cur : Array Value} (hb : w.heap[g]? = some (Obj.cells cur 182 (0, 0))) (hgr : w.grownBy w' (some g))
    (hb' : w'.heap[g]? = some (Obj.cells ((((cur.setIfInBounds (n * 7 + 2) (.bool true)).setIfInBounds (n * 7 + 4) (.string cp)).setIfInBounds (n * 7 + 5) cv).setIfInBounds (n * 7 + 6) (.bool cg)) 182 (0, 0))) (hd : BytesAt w base cv cd) :
    PJobAt w' base j s m (ps.set n { ps[n] with staged := true, cpath := cp, cval := cv, cdata := cd, cgone := cg }) over (.slice (some ⟨g, 0, none⟩) ps.length c) := by
  have hf : FrB (fun k => k = g) w w' := FrB.of_grown hgr (fun b hb _ => by injection hb with hb; exact hb.symm)
  have hT : OfTypes w (fun k => k = g) [182] := fun k hk _ => by subst hk; exact ⟨_, _, _, hb, by simp⟩
  have hby : ∀ {v : Value} {d : List Int}, BytesAt w base v d → BytesAt w' base v d := fun {v d} hx => hx.fr hf (hT.row hx.1 (by decide))
  refine ⟨h.hj, hf.at_ h.cell (hT.cells h.cell (by decide)), ?_, fun p hp => ?_⟩
  · have hr := h.row
    rcases hr.2 with ⟨e, _⟩ | ⟨g', cap, cur', e, hbb, hh, h1, h2, h3, h4⟩
    · cases e
    · injection e with e1 e2 e3
      injection e1 with e1
      injection e1 with e1
      subst e1 e3
      rw [hb] at hh
      injection hh with hh
      injection hh with hh
      subst hh
      refine ⟨by rw [flatG_length PartD.cells_len], .inr ⟨g, c, _, by rw [List.length_set], hbb, hb', by rw [List.length_set]; exact h1, h2, by simpa using h3, ?_⟩⟩
      simp only [Array.toList_setIfInBounds]
      rw [List.length_set, List.take_set, List.take_set, List.take_set, List.take_set, h4, flat_set ps n hn]
  · rcases List.mem_or_eq_of_mem_set hp with hp | rfl
    · exact ⟨hby (h.parts p hp).old, hby (h.parts p hp).new⟩
    · exact ⟨hby (h.parts ps[n] (List.getElem_mem hn)).old, hby hd⟩
theorem infoByte8 : (Tryz.prog.info? 5).map (fun i => (i.zero, i.size, i.bytes)) = some (some (.int .u8 0), 1, 1) := by kernel_rfl
def FullPost (j s : Nat) (m : ModD) (ps : List PartD) (over : Bool) (pv : Value) (i : Int) (d : List Int) (base : Nat) (w : World) (e : Ending) (w' : World) : Prop :=
  (partC ps over i ≠ 0 ∧ e = .returned (.int .i64 (partC ps over i)) ∧ w' = w) ∨
  (partC ps over i = 0 ∧ 8192 < d.length ∧ e = .returned (.int .i64 2) ∧ w' = w) ∨
  (partC ps over i = 0 ∧ d.length ≤ 8192 ∧ ∃ (n : Nat) (hn : n < ps.length) (v : Value), i = (n : Int) ∧ e = .returned (.int .i64 0) ∧ PJobAt w' base j s m (ps.set n (sentP ps[n] v d)) over pv ∧ FrB (jobB j pv) w w')
set_option maxRecDepth 100000 in
set_option maxHeartbeats 8000000 in
theorem full_any (j s : Nat) (m : ModD) (ps : List PartD) (over : Bool) (pv : Value) (i : Int) (A : Option Addr) (c : Nat) (d : List Int) (w : World) {base : Nat} (hbase : base ≤ w.heap.size) (hps : ps.length ≤ 1000) (hd : ByteRow w A d) (hA : A = none → d.length = 0) (hdw : ∀ x ∈ d, (Lit.int .u8 x).wf = true) (hdl : d.length ≤ 9223372036854775807) (hj : PJobAt w base j s m ps over pv) :
    Calls Tryz.prog 45 #[.pointer (some ⟨j, 0, none⟩), .int .i64 i, .slice A d.length c] w (FullPost j s m ps over pv i d base w) := by
  have HPA := Lib.hid (part_any j s m ps over pv i w hps hj)
  have HJ := Lib.hid hj
  have HD := Lib.hid hd
  have HDA := Lib.hid hA
  have HDW := Lib.hid hdw
  clear hj hd hA hdw
  go_enter Tryz.func45, Tryz.ntmps45
  go_wp2_with fail
  refine HPA.out.mono ?_
  rintro e w1 ⟨hw, ⟨hne, rfl⟩ | ⟨h0, rfl, n, g, cp, rfl, hn, rfl, hst, rfl⟩⟩
  · replace hw := hw.symm
    subst hw
    obtain ⟨k, hk⟩ : ∃ k, k = partC ps over i := ⟨_, rfl⟩
    rw [← hk] at hne ⊢
    have HK := Lib.hid hk
    have e1 : (k != 0) = true := by simpa using hne
    have HNE := Lib.hid hne
    clear hk hne
    go_wp2_with fail
    go_ret
    exact .inl ⟨by rw [← HK.out]; exact HNE.out, by rw [← HK.out]; rfl, rfl⟩
  · replace hw := hw.symm
    subst hw
    have H0 := Lib.hid h0
    clear h0 hst
    by_cases h8 : d.length ≤ 8192
    · have d8 : decide ((8192 : Int) < (d.length : Int)) = false := by simp; omega
      obtain ⟨g', c', he, hc', hcell⟩ := HJ.out.form (by omega)
      have hg : g = g' := by injection he with he; injection he with he; injection he
      subst hg
      have x0 : w.cell? ⟨g, n * 7, none⟩ = some (.string ps[n].path) := hcell n hn 0 (by omega)
      obtain ⟨cur, hcur⟩ : ∃ cur, w.heap[g]? = some (Obj.cells cur 182 (0, 0)) := by
        rcases HJ.out.row.2 with ⟨e, _⟩ | ⟨g2, cap, cur, e, _, hh, _⟩
        · cases e
        · injection e with e
          injection e with e
          injection e with e
          subst e
          exact ⟨cur, hh⟩
      have hcc : ∀ k, k < 7 → cur[n * 7 + k]? = (ps[n].cells)[k]? := fun k hk => by
        have := hcell n hn k hk
        simpa [World.cell?, hcur] using this
      have HCC := Lib.hid hcc
      have HCUR := Lib.hid hcur
      obtain ⟨j0, hj0, hjz0, hjz1, hjz2⟩ := info_parts infoByte8
      obtain ⟨p, hp⟩ : ∃ p, p = ps[n].path := ⟨_, rfl⟩
      rw [← hp] at x0
      have HP := Lib.hid hp
      have hgl : g < w.heap.size := lt_of_block hcur
      clear hcell hcc hcur hp he
      go_wp2_with fail
      go_region_held3 (fun w' => w'.cell? ⟨g, n * 7, none⟩ = some (.string p))
        (first
          | exact sx
          | exact sy
          | go_keep)
        (first
         | (refine step_append_row rfl (.tmp 28) (.tmp 29) 59 rfl 5 j0 (.int .u8 0) 1 1 Tryz.underlying59 hj0 hjz0 hjz1 hjz2 rfl (by decide) w.heap.size (by rfl) (heap_alloc_new w _) A d.length c (u8V d) (by rfl) (by simp [u8V]) (fun ad ea j u hj => cell_below ((below_one w _).trans (Below.drew (Below.refl _ _))) (HD.out ad ea j u hj)) (fun h => by cases hA : A with | none => (have := HDA.out hA; omega) | some ad => exact ⟨ad, rfl⟩) (fun u hu => by (obtain ⟨x, _, rfl⟩ := List.mem_map.1 hu; rfl)) (by unfold maxLen; omega) (by omega) ?_
            intro v2 w2 hown2 hg2
            have hbw : Below w.heap.size w w2 := ((below_one w (.cells #[] 5)).trans (Below.drew (Below.refl _ _))).grown hg2 (by simp) (fun j hj => by injection hj with hj; omega)
            have sx : w2.cell? ⟨g, n * 7, none⟩ = some (.string p) := cell_below hbw x0
            obtain ⟨A2, c2, rfl⟩ := own_slice hown2
            have HBW := Lib.hid hbw
            have HO2 := Lib.hid hown2
            clear hown2 hg2 hbw)
         | (go_at_call 78
            refine (stage_any g n p (.slice A2 d.length c2) false cur _ _ _ _ w2 (block_below HCUR.out HBW.out) (HCC.out 2 (by omega)) (HCC.out 4 (by omega)) (HCC.out 5 (by omega)) (HCC.out 6 (by omega)) A2 d.length c2 rfl).mono ?_
            rintro e w3 ⟨rfl, hg3, hb3⟩
            have sy : w3.cell? ⟨g, n * 7, none⟩ = some (.string p) := by
              have h := cell_below HBW.out x0
              simp only [World.cell?, block_below HCUR.out HBW.out] at h
              simp [World.cell?, hb3, Array.getElem?_setIfInBounds]
              simpa using h
            have HG3 := Lib.hid hg3
            have HB3 := Lib.hid hb3
            clear hg3 hb3))
      all_goals
        go_wp2_with fail
        go_ret
        have hs3 := (HJ.out.below HBW.out).staged hn (block_below HCUR.out HBW.out) HG3.out HB3.out (bytes_own (own_mono HO2.out hbase) HDW.out (by omega))
        rw [HP.out] at hs3
        exact .inr (.inr ⟨H0.out, h8, n, hn, .slice A2 d.length c2, rfl, rfl, hs3, (FrB.of_below (S := jobB j (.slice (some ⟨g, 0, none⟩) ps.length cp)) HBW.out).trans (FrB.of_grown HG3.out (fun b hb _ => .inr (by injection hb with hb; rw [← hb]; rfl))) (fun k _ h => h)⟩)
    · have d8 : decide ((8192 : Int) < (d.length : Int)) = true := by simp; omega
      go_wp2_with fail
      go_ret
      exact .inr (.inl ⟨H0.out, by omega, rfl, rfl⟩)
def leftN (ps : List PartD) : Nat := (ps.filter fun p => !p.staged).length
theorem leftN_le (ps : List PartD) : leftN ps ≤ ps.length := List.length_filter_le _ _
theorem leftN_snoc (ps : List PartD) (k : Nat) (h : k < ps.length) : leftN (ps.take (k + 1)) = leftN (ps.take k) + if ps[k].staged then 0 else 1 := by
  unfold leftN
  rw [List.take_succ_eq_append_getElem h, List.filter_append, List.length_append]
  cases hs : ps[k].staged <;> simp [hs]
set_option maxRecDepth 100000 in
set_option maxHeartbeats 4000000 in
theorem left_any (j s : Nat) (m : ModD) (ps : List PartD) (over : Bool) (pv : Value) (w : World) {base : Nat} (hps : ps.length ≤ 1000) (hj : PJobAt w base j s m ps over pv) :
    Calls Tryz.prog 46 #[.pointer (some ⟨j, 0, none⟩)] w fun e w' => e = .returned (.int .i64 ((leftN ps : Nat) : Int)) ∧ Below w.heap.size w w' := by
  obtain ⟨y0, _, _, y7, y8⟩ := hj.cells
  obtain ⟨A, c, rfl, hc⟩ := hj.slice
  have HJ := Lib.hid hj
  clear hj
  go_enter Tryz.func46, Tryz.ntmps46
  go_wp2_with fail
  go_loopw [3, 11] (fun n i wr => ∃ k : Nat, k ≤ ps.length ∧ i = .int .i64 k ∧ n = .int .i64 ((leftN (ps.take k) : Nat) : Int) ∧ Below w.heap.size w wr) (fun _ i _ => ps.length - (intOf i).toNat)
  case atStart => exact ⟨0, by omega, rfl, rfl, Below.refl _ _⟩
  case round =>
    obtain ⟨k, hk, rfl, rfl, hb⟩ := hrel
    obtain ⟨wk, rfl⟩ : ∃ W, W = wr := ⟨wr, rfl⟩
    by_cases hlt : k < ps.length
    · obtain ⟨g, c', he, _, hcell⟩ := (HJ.out.below hb).form (by omega)
      have hA : A = some ⟨g, 0, none⟩ := by injection he
      subst hA
      have z0 : wk.cell? ⟨g, k * 7, none⟩ = some (.string ps[k].path) := hcell k hlt 0 (by omega)
      have z1 : wk.cell? ⟨g, k * 7 + 1, none⟩ = some ps[k].oldv := hcell k hlt 1 (by omega)
      have z2 : wk.cell? ⟨g, k * 7 + 2, none⟩ = some (.bool ps[k].staged) := hcell k hlt 2 (by omega)
      have z3 : wk.cell? ⟨g, k * 7 + 3, none⟩ = some (.bool ps[k].redo) := hcell k hlt 3 (by omega)
      have z4 : wk.cell? ⟨g, k * 7 + 4, none⟩ = some (.string ps[k].cpath) := hcell k hlt 4 (by omega)
      have z5 : wk.cell? ⟨g, k * 7 + 5, none⟩ = some ps[k].cval := hcell k hlt 5 (by omega)
      have z6 : wk.cell? ⟨g, k * 7 + 6, none⟩ = some (.bool ps[k].cgone) := hcell k hlt 6 (by omega)
      have hpa := (HJ.out.below hb).parts ps[k] (List.getElem_mem hlt)
      obtain ⟨Ao, co, ho⟩ := own_slice hpa.old.1
      obtain ⟨Ac, cc, hcv⟩ := own_slice hpa.new.1
      have hsn := leftN_snoc ps k hlt
      have hle := leftN_le (ps.take k)
      rw [List.length_take] at hle
      generalize ps[k] = p at *
      rw [ho] at z1
      rw [hcv] at z5
      obtain ⟨l0, hl0⟩ : ∃ l0, l0 = leftN (ps.take k) := ⟨_, rfl⟩
      rw [← hl0] at hsn hle ⊢
      have hl1 : l0 ≤ 1000 := by omega
      have HSN := Lib.hid hsn
      have HBW := Lib.hid hb
      clear hcell he hpa ho hcv hsn hl0 hb
      cases hs : p.staged with
      | true =>
        rw [hs] at z2
        have HSS := Lib.hid hs
        clear hs
        go_wp2_with fail
        go_roundw
        case rel => exact ⟨k + 1, by omega, by go_num, (by rw [HSN.out, HSS.out]; rfl), below_from HBW.out (below_one _ _)⟩
        case measure => simp [intOf]; omega
      | false =>
        rw [hs] at z2
        have HSS := Lib.hid hs
        clear hs
        go_wp2_with fail
        go_roundw
        case rel => exact ⟨k + 1, by omega, by go_num, (by rw [HSN.out, HSS.out]; rfl), below_from HBW.out (below_one _ _)⟩
        case measure => simp [intOf]; omega
    · obtain rfl : k = ps.length := by omega
      rw [List.take_length]
      go_wp2_with fail
      go_ret
      exact ⟨rfl, hb⟩
end Go.Proofs.YtkplkienbgoofaaGreatDoor

namespace Go.Proofs.YtkplkienbgoofaaGreatDoor
open Go.RowKit Go.Maps Go.WideMaps Go.WideAt
/-- A change, and where its data lie. -/
structure ORow where
  chg : ChgD
  val : Value
def ORow.cells (r : ORow) : List Value := [.string r.chg.1, r.val, .bool r.chg.2.2]
theorem ORow.cells_len (r : ORow) : r.cells.length = 3 := rfl
def flatO (q : List ORow) : List Value := q.flatMap ORow.cells
theorem flatO_snoc (q : List ORow) (r : ORow) : flatO (q ++ [r]) = flatO q ++ r.cells := by simp [flatO]
theorem infoChange : (Tryz.prog.info? 90).map (fun i => (i.zero, i.size, i.bytes)) = some (some (.agg #[.string ⟨#[]⟩, .slice none 0 0, .bool false]), 3, 48) := by kernel_rfl
/-- Changes: a row of the call's own, their data too. -/
structure ChgOwn (w : World) (base db : Nat) (v : Value) (q : List ORow) : Prop where
  own : w.ownsRow base 90 3 v q.length (flatO q)
  data : ∀ r ∈ q, BytesAt w db r.val r.chg.2.1
theorem ChgOwn.nil (w : World) (base db : Nat) : ChgOwn w base db (.slice none 0 0) [] := ⟨World.ownsRow_nil _ _ _ _, fun r h => by cases h⟩
theorem ChgOwn.below {w w' : World} {base db : Nat} {v : Value} {q : List ORow} (h : ChgOwn w base db v q) (hb : Below w.heap.size w w') : ChgOwn w' base db v q := ⟨own_stay h.own hb, fun r hr => (h.data r hr).below hb⟩
theorem ChgOwn.mono {w : World} {base base' db : Nat} {v : Value} {q : List ORow} (h : ChgOwn w base db v q) (hb : base' ≤ base) : ChgOwn w base' db v q := ⟨own_mono h.own hb, h.data⟩
theorem ChgOwn.frame {b : Nat} {w w' : World} {base db : Nat} {v : Value} {q : List ORow} (h : ChgOwn w base db v q) (hf : TFrame b w w') (hb : ∀ cs t fr, w.heap[b]? ≠ some (Obj.cells cs t fr)) : ChgOwn w' base db v q :=
  ⟨(SFrame.of_tree hf hb).own h.own (by decide) (by decide) (by decide), fun r hr => ⟨(SFrame.of_tree hf hb).own (h.data r hr).1 (by decide) (by decide) (by decide), (h.data r hr).2⟩⟩
/-- One change more. -/
theorem ChgOwn.app {w w' : World} {base db : Nat} {v v' : Value} {q : List ORow} {r : ORow} (h : ChgOwn w base db v q) (hd : BytesAt w db r.val r.chg.2.1) (ho : w'.ownsRow base 90 3 v' (q.length + 1) (flatO q ++ r.cells)) (hg : w.grownBy w' v.ownBlock) : ChgOwn w' base db v' (q ++ [r]) := by
  have hT : OfTypes w (fun k => v.ownBlock = some k) [90] := fun k hk hlt => by
    rcases h.own.2 with ⟨e, _⟩ | ⟨g, cap, cur, e, _, hh, _⟩
    · rw [e] at hk; simp [Value.ownBlock] at hk
    · rw [e] at hk
      have : g = k := by simpa [Value.ownBlock] using hk
      subst this
      exact ⟨_, _, _, hh, by simp⟩
  have hf : FrB (fun k => v.ownBlock = some k) w w' := FrB.of_grown hg (fun b hb _ => hb)
  refine ⟨by rw [List.length_append, List.length_singleton, flatO_snoc]; exact ho, fun x hx => ?_⟩
  rcases List.mem_append.1 hx with hx | hx
  · exact (h.data x hx).fr hf (hT.row (h.data x hx).1 (by decide))
  · rw [List.mem_singleton.1 hx]
    exact hd.fr hf (hT.row hd.1 (by decide))
theorem ChgOwn.row {w : World} {base db : Nat} {v : Value} {q : List ORow} (h : ChgOwn w base db v q) : ∃ A c, v = .slice A (q.map ORow.chg).length c ∧ (q.map ORow.chg).length ≤ c ∧ ChgRow w A (q.map ORow.chg) := by
  rw [List.length_map]
  rcases h.own.2 with ⟨rfl, h0⟩ | ⟨b, cap, cur, rfl, _, _, hcap, _⟩
  · exact ⟨none, 0, by rw [h0], by omega, fun k hk => by simp at hk; omega⟩
  · refine ⟨_, cap, rfl, hcap, fun k hk => ?_⟩
    have hk : k < q.length := by simpa using hk
    have e : ∀ j, j < 3 → w.cell? ⟨b, k * 3 + j, none⟩ = (q[k].cells)[j]? := fun j hj => by
      rw [h.own.cellAt (k * 3 + j) (by omega), flatO, flatG_get ORow.cells_len q k hk j hj]
    obtain ⟨A', c', hv, hle, hr, hn⟩ := own_bytes (h.data _ (List.getElem_mem hk)).1
    refine ⟨b, 0, A', c', rfl, ?_⟩
    simp only [List.getElem_map, Nat.zero_add]
    have e1 := e 1 (by omega)
    simp only [ORow.cells, List.getElem?_cons_succ, List.getElem?_cons_zero] at e1
    rw [hv] at e1
    exact ⟨e 0 (by omega), e1, e 2 (by omega), hle, hr, hn⟩
theorem ChgOwn.slice {w : World} {base db : Nat} {v : Value} {q : List ORow} (h : ChgOwn w base db v q) : ∃ A c, v = .slice A q.length c := by
  rcases h.own.2 with ⟨rfl, h0⟩ | ⟨b, cap, cur, rfl, _⟩
  · exact ⟨none, 0, by rw [h0]⟩
  · exact ⟨_, _, rfl⟩
end Go.Proofs.YtkplkienbgoofaaGreatDoor

namespace Go.Proofs.YtkplkienbgoofaaGreatDoor
open Go.RowKit Go.Maps Go.WideMaps Go.WideAt
def PartD.chg (p : PartD) : ChgD := (p.cpath, p.cdata, p.cgone)
def chgsP (ps : List PartD) : List ChgD := (ps.filter PartD.staged).map PartD.chg
theorem chgsP_snoc (ps : List PartD) (k : Nat) (h : k < ps.length) : chgsP (ps.take (k + 1)) = chgsP (ps.take k) ++ if ps[k].staged then [ps[k].chg] else [] := by
  unfold chgsP
  rw [List.take_succ_eq_append_getElem h, List.filter_append, List.map_append]
  cases hs : ps[k].staged <;> simp [hs]
theorem wpList_append_row {P : Program} {ops : Array Oper} {rest : List Oper} {o : Oper} {a : Act} {W : World} {Q : Exit → Act → World → Prop} (hgd : o.guard = none) (s x : Operand) (t : TypeId)
    (ho : o.op = .call { callee := .builtin .append, args := #[s, x], argTypes := #[t, t] })
    (e : TypeId) (i : TypeInfo) (z : Value) (size bytes : Nat) (ht : P.underlying t = some (.slice e)) (hi : P.info? e = some i) (hz : i.zero = some z)
    (hsize : i.size = size) (hby : i.bytes = bytes) (hzs : z.cells.size = size) (hsz : 0 < size)
    (b0 : Nat) (hs : a.eval s = .slice (some ⟨b0, 0, none⟩) 0 0) (hb0 : W.heap[b0]? = some (.cells #[] e (0, 0)))
    (v : Value) (n : Nat) (xs : List Value) {base : Nat} (hx : a.eval x = v) (hown : W.ownsRow base e size v n xs) (h1 : ∀ u ∈ xs, u.oneCell' = true)
    (h63 : n ≤ maxLen) (hbytes : n * bytes ≤ 140737488355328)
    (h : ∀ v' w', w'.ownsRow b0 e size v' n xs → W.grownBy w' (some b0) → wpList P ops Q rest (a.put o.dst v') w') :
    wpList P ops Q (o :: rest) a W := by
  have hown0 : W.ownsRow b0 e size (.slice (some ⟨b0, 0, none⟩) 0 0) 0 [] := ⟨by simp, .inr ⟨b0, 0, #[], rfl, Nat.le_refl _, hb0, Nat.le_refl _, Nat.zero_le _, by simp, by simp⟩⟩
  have hb0s := lt_of_block hb0
  by_cases hn : 0 < n
  · obtain ⟨g, cap, rfl, _, hg⟩ := hown.form hn
    refine wpList_append_own _ hgd s x t ho b0 e i z size bytes ht hi hz hsize hby hzs hsz (.slice (some ⟨b0, 0, none⟩) 0 0) 0 [] hs hown0 ⟨g, 0, none⟩ n cap xs hx hown.1 (fun j u hj => hown.cells rfl j u hj) h1 (by omega) (by simpa using hbytes) (by omega) (fun v' w' h2 h3 _ => ?_)
    exact h v' w' (by simpa using h2) h3
  · have h0 : n = 0 := by omega
    subst h0
    have hxs : xs = [] := List.length_eq_zero_iff.1 (by simpa using hown.1)
    subst hxs
    obtain ⟨A, c, rfl⟩ : ∃ A c, v = .slice A 0 c := by
      rcases hown.2 with ⟨rfl, _⟩ | ⟨g, cap, cur, rfl, _⟩
      · exact ⟨_, _, rfl⟩
      · exact ⟨_, _, rfl⟩
    exact wpList_append_nothing hgd s x t ho e i ht hi (some ⟨b0, 0, none⟩) 0 0 hs (Nat.le_refl _) A c hx (h _ _ hown0 ⟨rfl, rfl, rfl, Nat.le_refl _, fun _ _ _ => rfl⟩)
theorem one_u8 (d : List Int) : ∀ u ∈ u8V d, u.oneCell' = true := fun u hu => by
  obtain ⟨x, _, rfl⟩ := List.mem_map.1 hu
  rfl
set_option maxRecDepth 100000 in
set_option maxHeartbeats 8000000 in
theorem changes_any (j s : Nat) (m : ModD) (ps : List PartD) (over : Bool) (pv : Value) (w : World) {base : Nat} (hps : ps.length ≤ 1000) (hj : PJobAt w base j s m ps over pv) :
    Calls Tryz.prog 44 #[.pointer (some ⟨j, 0, none⟩)] w fun e w' => ∃ v q, e = .returned v ∧ ChgOwn w' w.heap.size w.heap.size v q ∧ q.map ORow.chg = chgsP ps ∧ Below w.heap.size w w' := by
  obtain ⟨y0, _, _, y7, y8⟩ := hj.cells
  obtain ⟨A, c, rfl, hc⟩ := hj.slice
  have HJ := Lib.hid hj
  obtain ⟨j0, hj0, hjz0, hjz1, hjz2⟩ := info_parts infoByte8
  obtain ⟨jc, hjc, hcz0, hcz1, hcz2⟩ := info_parts infoChange
  clear hj
  go_enter Tryz.func44, Tryz.ntmps44
  go_wp2_with fail
  go_loopw [3, 12] (fun ov i wr => ∃ (k : Nat) (q : List ORow), k ≤ ps.length ∧ i = .int .i64 k ∧ ChgOwn wr w.heap.size w.heap.size ov q ∧ q.map ORow.chg = chgsP (ps.take k) ∧ q.length ≤ k ∧ Below w.heap.size w wr) (fun _ i _ => ps.length - (intOf i).toNat)
  case atStart => exact ⟨0, [], by omega, rfl, ChgOwn.nil _ _ _, rfl, by simp, Below.refl _ _⟩
  case round =>
    obtain ⟨k, q, hk, rfl, hco, hq, hql, hb⟩ := hrel
    obtain ⟨wk, rfl⟩ : ∃ W, W = wr := ⟨wr, rfl⟩
    have HCO := Lib.hid hco
    have HQ := Lib.hid hq
    have HBW := Lib.hid hb
    have hszk := hb.size
    by_cases hlt : k < ps.length
    · obtain ⟨g, c', he, _, hcell⟩ := (HJ.out.below hb).form (by omega)
      have hA : A = some ⟨g, 0, none⟩ := by injection he
      subst hA
      have z0 : wk.cell? ⟨g, k * 7, none⟩ = some (.string ps[k].path) := hcell k hlt 0 (by omega)
      have z1 : wk.cell? ⟨g, k * 7 + 1, none⟩ = some ps[k].oldv := hcell k hlt 1 (by omega)
      have z2 : wk.cell? ⟨g, k * 7 + 2, none⟩ = some (.bool ps[k].staged) := hcell k hlt 2 (by omega)
      have z3 : wk.cell? ⟨g, k * 7 + 3, none⟩ = some (.bool ps[k].redo) := hcell k hlt 3 (by omega)
      have z4 : wk.cell? ⟨g, k * 7 + 4, none⟩ = some (.string ps[k].cpath) := hcell k hlt 4 (by omega)
      have z5 : wk.cell? ⟨g, k * 7 + 5, none⟩ = some ps[k].cval := hcell k hlt 5 (by omega)
      have z6 : wk.cell? ⟨g, k * 7 + 6, none⟩ = some (.bool ps[k].cgone) := hcell k hlt 6 (by omega)
      have hpa := (HJ.out.below hb).parts ps[k] (List.getElem_mem hlt)
      obtain ⟨Ao, co, ho⟩ := own_slice hpa.old.1
      obtain ⟨Ac, cc, hcv⟩ := own_slice hpa.new.1
      have hsn := chgsP_snoc ps k hlt
      obtain ⟨p, hp⟩ : ∃ p, p = ps[k] := ⟨_, rfl⟩
      rw [← hp] at z0 z1 z2 z3 z4 z5 z6 hpa hsn ho hcv
      rw [ho] at z1
      rw [hcv] at z5
      have hnew := hpa.new
      rw [hcv] at hnew
      have hdl := hnew.2.2
      have HNEW := Lib.hid hnew
      have HSN := Lib.hid hsn
      clear hcell he hpa ho hcv hsn hb hp hco hq
      have hb1 := below_one wk (.cells #[.string p.path, .slice Ao p.old.length co, .bool p.staged, .bool p.redo, .string p.cpath, .slice Ac p.cdata.length cc, .bool p.cgone] 182)
      cases hs : p.staged with
      | true =>
        rw [hs] at z2 hb1
        have HSS := Lib.hid hs
        have hb2 := below_one (wk.alloc (.cells #[.string p.path, .slice Ao p.old.length co, .bool true, .bool p.redo, .string p.cpath, .slice Ac p.cdata.length cc, .bool p.cgone] 182)) (.cells #[.string p.cpath, .slice Ac p.cdata.length cc, .bool p.cgone] 90)
        have hn2 := heap_alloc_new (wk.alloc (.cells #[.string p.path, .slice Ao p.old.length co, .bool true, .bool p.redo, .string p.cpath, .slice Ac p.cdata.length cc, .bool p.cgone] 182)) (.cells #[.string p.cpath, .slice Ac p.cdata.length cc, .bool p.cgone] 90)
        have hb3 := below_one ((wk.alloc (.cells #[.string p.path, .slice Ao p.old.length co, .bool true, .bool p.redo, .string p.cpath, .slice Ac p.cdata.length cc, .bool p.cgone] 182)).alloc (.cells #[.string p.cpath, .slice Ac p.cdata.length cc, .bool p.cgone] 90)) (.cells #[] 5)
        have hn3 := heap_alloc_new ((wk.alloc (.cells #[.string p.path, .slice Ao p.old.length co, .bool true, .bool p.redo, .string p.cpath, .slice Ac p.cdata.length cc, .bool p.cgone] 182)).alloc (.cells #[.string p.cpath, .slice Ac p.cdata.length cc, .bool p.cgone] 90)) (.cells #[] 5)
        have hn23 := block_below hn2 hb3
        have hs1 : (wk.alloc (.cells #[.string p.path, .slice Ao p.old.length co, .bool true, .bool p.redo, .string p.cpath, .slice Ac p.cdata.length cc, .bool p.cgone] 182)).heap.size = wk.heap.size + 1 := by simp
        have hs2 : ((wk.alloc (.cells #[.string p.path, .slice Ao p.old.length co, .bool true, .bool p.redo, .string p.cpath, .slice Ac p.cdata.length cc, .bool p.cgone] 182)).alloc (.cells #[.string p.cpath, .slice Ac p.cdata.length cc, .bool p.cgone] 90)).heap.size = wk.heap.size + 1 + 1 := by simp
        have hs3 : (((wk.alloc (.cells #[.string p.path, .slice Ao p.old.length co, .bool true, .bool p.redo, .string p.cpath, .slice Ac p.cdata.length cc, .bool p.cgone] 182)).alloc (.cells #[.string p.cpath, .slice Ac p.cdata.length cc, .bool p.cgone] 90)).alloc (.cells #[] 5)).heap.size = wk.heap.size + 1 + 1 + 1 := by simp
        rw [hs1] at hn23
        rw [hs2] at hn3
        have HN23 := Lib.hid hn23
        have HN3 := Lib.hid hn3
        have HS3 := Lib.hid hs3
        have HD3 := Lib.hid (((HNEW.out.below hb1).below hb2).below hb3)
        have HB3 := Lib.hid (below_from (below_from (below_from HBW.out hb1) hb2) hb3)
        have HC3 := Lib.hid (((HCO.out.below hb1).below hb2).below hb3)
        have HBK3 := Lib.hid (below_from (below_from hb1 hb2) hb3)
        clear hs hb1 hb2 hb3 hn2 hn3 hn23 hs1 hs2 hs3
        go_wp2_with (first | (at_builtin; refine wpList_append_row rfl (.tmp 20) (.tmp 22) 59 rfl 5 j0 (.int .u8 0) 1 1 Tryz.underlying59 hj0 hjz0 hjz1 hjz2 rfl (by decide) (wk.heap.size + 1 + 1) (by simp [Act.eval, Act.put]) HN3.out (.slice Ac p.cdata.length cc) p.cdata.length (u8V p.cdata) (by simp [Act.eval, Act.put]) HD3.out.1 (one_u8 _) (by unfold maxLen; omega) (by omega) ?_; intro v6 w6 hown6 hg6; obtain ⟨A6, c6, rfl⟩ := own_slice hown6; have hb6 := HB3.out.grown hg6 (by rw [HS3.out]; omega) (fun b hb => by (injection hb with hb; omega)); have hn6 := (hg6.block (wk.heap.size + 1) (by rw [HS3.out]; omega) (fun e => by (injection e with e; omega))).trans HN23.out; have q6 : w6.cell? ⟨wk.heap.size + 1, 1, none⟩ = some (.slice Ac p.cdata.length cc) := (by simp [World.cell?, hn6]); have f6 := frozen_of_row _ _ 1 _ _ hn6; have hbk6 := HBK3.out.grown hg6 (by rw [HS3.out]; omega) (fun b hb => by (injection hb with hb; omega)); have hbk7 : Below wk.heap.size wk (w6.setCell ⟨wk.heap.size + 1, 1, none⟩ (.slice A6 p.cdata.length c6)) := hbk6.setCell (p := ⟨wk.heap.size + 1, 1, none⟩) (by (show wk.heap.size ≤ wk.heap.size + 1; omega)) _; have hn7 : (w6.setCell ⟨wk.heap.size + 1, 1, none⟩ (.slice A6 p.cdata.length c6)).heap[wk.heap.size + 1]? = some (Obj.cells #[.string p.cpath, .slice A6 p.cdata.length c6, .bool p.cgone] 90 (0, 0)) := (by (rw [heap_setCell_same w6 (wk.heap.size + 1) 1 _ _ _ hn6]; rfl)); have y0 : (w6.setCell ⟨wk.heap.size + 1, 1, none⟩ (.slice A6 p.cdata.length c6)).cell? ⟨wk.heap.size + 1, 0, none⟩ = some (.string p.cpath) := (by simp [World.cell?, hn7]); have y1 : (w6.setCell ⟨wk.heap.size + 1, 1, none⟩ (.slice A6 p.cdata.length c6)).cell? ⟨wk.heap.size + 1, 1, none⟩ = some (.slice A6 p.cdata.length c6) := (by simp [World.cell?, hn7]); have y2 : (w6.setCell ⟨wk.heap.size + 1, 1, none⟩ (.slice A6 p.cdata.length c6)).cell? ⟨wk.heap.size + 1, 2, none⟩ = some (.bool p.cgone) := (by simp [World.cell?, hn7]); have hby7 : BytesAt (w6.setCell ⟨wk.heap.size + 1, 1, none⟩ (.slice A6 p.cdata.length c6)) w.heap.size (.slice A6 p.cdata.length c6) p.cdata := ⟨own_mono (own_kept hown6 (grownBy_set w6 (wk.heap.size + 1) 1 (.slice A6 p.cdata.length c6)) (fun b hb e => by (have h := (hown6.lt b hb).1; injection e with e; omega))) (by omega), HNEW.out.2⟩; have hb8 := below_one (w6.setCell ⟨wk.heap.size + 1, 1, none⟩ (.slice A6 p.cdata.length c6)) (.cells #[.string p.cpath, .slice A6 p.cdata.length c6, .bool p.cgone] 90); have HC8 := Lib.hid ((HCO.out.below hbk7).below hb8); have HD8 := Lib.hid (hby7.below hb8); have HSRC8 := Lib.hid (src_three (w6.setCell ⟨wk.heap.size + 1, 1, none⟩ (.slice A6 p.cdata.length c6)) (.string p.cpath) (.slice A6 p.cdata.length c6) (.bool p.cgone) 90); have HB8 := Lib.hid (below_from (HBW.out.trans (hbk7.mono HBW.out.size)) hb8); have HSZ8 : Hid (((w6.setCell ⟨wk.heap.size + 1, 1, none⟩ (.slice A6 p.cdata.length c6)).alloc (.cells #[.string p.cpath, .slice A6 p.cdata.length c6, .bool p.cgone] 90)).heap.size = (w6.setCell ⟨wk.heap.size + 1, 1, none⟩ (.slice A6 p.cdata.length c6)).heap.size + 1) := Lib.hid (by simp); clear hown6 hg6 hb6 hn6 hbk6 hbk7 hn7 hby7 hb8) | (at_builtin; refine wpList_append_own_at _ rfl (.tmp 25) (.tmp 27) 22 rfl w.heap.size 90 jc (.agg #[.string ⟨#[]⟩, .slice none 0 0, .bool false]) 3 48 Tryz.underlying22 hjc hcz0 hcz1 hcz2 rfl (by decide) u3 q.length (flatO q) (by simp [Act.eval, Act.put]) HC8.out.own ⟨(w6.setCell ⟨wk.heap.size + 1, 1, none⟩ (.slice A6 p.cdata.length c6)).heap.size, 0, none⟩ 1 1 [.string p.cpath, .slice A6 p.cdata.length c6, .bool p.cgone] (by simp [Act.eval, Act.put]) rfl HSRC8.out (by simp [Value.oneCell']) (by unfold maxLen; omega) (by omega) HB8.out.size ?_; intro v9 w9 hown9 hg9 _ _; have hca := HC8.out.app (r := ⟨(p.cpath, p.cdata, p.cgone), .slice A6 p.cdata.length c6⟩) HD8.out hown9 hg9; have HCA := Lib.hid hca; have HB9 := Lib.hid (HB8.out.grown hg9 HB8.out.size (fun b hb => (HC8.out.own.lt b hb).1)); clear hown9 hg9 hca y0 y1 y2 q6 f6))
        go_roundw
        case rel => exact ⟨k + 1, _, by omega, by go_num, HCA.out, (by rw [List.map_append, HSN.out, HSS.out, HQ.out]; rfl), (by rw [List.length_append, List.length_singleton]; omega), HB9.out⟩
        case measure => simp [intOf]; omega
      | false =>
        rw [hs] at z2
        have HSS := Lib.hid hs
        clear hs
        go_wp2_with fail
        go_roundw
        case rel => exact ⟨k + 1, q, by omega, by go_num, HCO.out.below (below_one _ _), (by rw [HSN.out, HSS.out, HQ.out]; simp), by omega, below_from HBW.out (below_one _ _)⟩
        case measure => simp [intOf]; omega
    · obtain rfl : k = ps.length := by omega
      rw [List.take_length] at hq
      have HQ2 := Lib.hid hq
      obtain ⟨A9, c9, rfl⟩ := hco.slice
      clear hq hco hb
      go_wp2_with fail
      go_ret
      exact ⟨_, q, rfl, HCO.out, HQ2.out, HBW.out⟩
end Go.Proofs.YtkplkienbgoofaaGreatDoor

namespace Go.Proofs.YtkplkienbgoofaaGreatDoor
open Go.RowKit Go.Maps Go.WideMaps Go.WideAt
theorem lenAt_le {w : World} {base g b now : Nat} {F : List FileS} (h : TreeAt w base g b now F) (v : Int) (p : ByteArray) : lenAt F v p ≤ 300000 := by
  unfold lenAt
  cases hr : atRow F v p with
  | none => simp
  | some r => exact (h.data hr).2.2
theorem at_len {w : World} {base g b now : Nat} {F : List FileS} (h : TreeAt w base g b now F) (v : Int) (p : ByteArray) : ∃ A c u, atV (atRow F v p) = .tuple #[.slice A (lenAt F v p) c, u] := by
  unfold lenAt
  cases hr : atRow F v p with
  | none => exact ⟨_, _, _, rfl⟩
  | some r =>
    obtain ⟨A, c, e, _⟩ := own_bytes (h.data hr).1
    exact ⟨A, c, _, by rw [atV, e]⟩
theorem read_len {now : Nat} {F : List FileS} {v : Int} {p : ByteArray} {d : List Int} (h : readT now F v p = (d, 0)) : lenAt F v p = d.length := by
  unfold readT at h
  split at h
  · cases h
  · unfold lenAt
    cases hr : atRow F v p with
    | none => rw [hr] at h; cases h
    | some r =>
      rw [hr] at h
      simp only at h
      split at h
      · cases h
      · injection h with h _
        rw [← h]
theorem read_zero {now : Nat} {F : List FileS} {v : Int} {p : ByteArray} (h0 : 0 ≤ v) (h1 : v ≤ now) : (thereB F v p = true → ∃ d, readT now F v p = (d, 0)) ∧ (thereB F v p = false → readT now F v p = ([], 4)) := by
  rw [readT, if_neg (by omega)]
  unfold thereB
  cases hr : atRow F v p with
  | none => exact And.intro (fun h => by cases h) (fun _ => rfl)
  | some r =>
    cases hg : r.gone with
    | true => exact And.intro (fun h => by simp [hg] at h) (fun _ => by simp [hg])
    | false => exact And.intro (fun _ => ⟨r.data, by simp [hg]⟩) (fun h => by simp [hg] at h)
set_option maxRecDepth 100000 in
set_option maxHeartbeats 4000000 in
theorem bytes_any (g b now : Nat) (v : Int) (root : ByteArray) (F : List FileS) (w : World) {base : Nat} (hroot : root.size ≤ 140737488351232) (hm : mapN F ≤ 90000) (ht : TreeAt w base g b now F) :
    Calls Tryz.prog 79 #[.pointer (some ⟨g, 0, none⟩), .int .i64 v, .string root] w fun e w' => e = .returned (.int .i64 ((sumL (lenAt F v) (listT now F v root).1 : Nat) : Int)) ∧ Below w.heap.size w w' := by
  have hs := ht.small hm
  have HLA := Lib.hid (list_any g b now v root F w hroot (fun f hf => Nat.le_trans (hs.2 f hf) (by omega)) (Nat.le_trans hs.1 (by omega)) ht)
  have hll := Nat.le_trans (list_len now F v root) hs.1
  have HT := Lib.hid ht
  have HS := Lib.hid hs
  obtain ⟨L, hL⟩ : ∃ L, L = listT now F v root := ⟨_, rfl⟩
  have hps : ∀ p ∈ L.1, p.size ≤ maxLen := fun p hp => by
    rw [hL] at hp
    obtain ⟨f, hf, rfl⟩ := List.mem_map.1 (list_there hp).1
    have := (ht.files f hf).2.2.2
    unfold maxLen
    omega
  have HPS := Lib.hid hps
  rw [← hL] at hll ⊢
  have HL := Lib.hid hL
  clear ht hs hL hps
  go_enter Tryz.func79, Tryz.ntmps79
  go_wp2_with fail
  refine HLA.out.mono ?_
  unfold ListPost
  rw [← HL.out]
  rintro e w2 ⟨u, rfl, ho, hb2⟩
  obtain ⟨A, c, rfl, hc, hr⟩ := own_row ho
  have HR := Lib.hid hr
  have HT2 := Lib.hid (HT.out.below hb2)
  have HB2 := Lib.hid hb2
  clear ho hr hb2
  go_wp2_with fail
  go_loopw [7, 23] (fun n i wr => ∃ k : Nat, k ≤ L.1.length ∧ i = .int .i64 k ∧ n = .int .i64 ((sumL (lenAt F v) (L.1.take k) : Nat) : Int) ∧ Below w2.heap.size w2 wr) (fun _ i _ => L.1.length - (intOf i).toNat)
  case atStart => exact ⟨0, by omega, rfl, by simp [sumL], Below.refl _ _⟩
  case round =>
    obtain ⟨k, hk, rfl, rfl, hbr⟩ := hrel
    have HBR := Lib.hid hbr
    clear hbr
    by_cases hlt : k < L.1.length
    · obtain ⟨ad, rfl, htx⟩ := (HR.out.below HBR.out) (by omega)
      obtain ⟨p, hp⟩ : ∃ p, p = L.1[k] := ⟨_, rfl⟩
      have x1 := htx k hlt
      rw [← hp] at x1
      have hpz := HPS.out p (hp ▸ List.getElem_mem hlt)
      have htk : sumL (lenAt F v) (L.1.take (k + 1)) = sumL (lenAt F v) (L.1.take k) + lenAt F v p := by
        rw [List.take_succ_eq_append_getElem hlt, sumL_snoc, hp]
      have HTK := Lib.hid htk
      have hle := sumL_le (l := L.1.take k) (f := lenAt F v) (m := 300000) (fun q _ => lenAt_le HT.out v q)
      have hlen : (L.1.take k).length ≤ 90000 := by rw [List.length_take]; omega
      have hle2 : sumL (lenAt F v) (L.1.take k) ≤ 27000000000 := Nat.le_trans hle (Nat.mul_le_mul_right 300000 hlen)
      have hlp := lenAt_le HT.out v p
      obtain ⟨s, hs⟩ : ∃ s, s = sumL (lenAt F v) (L.1.take k) := ⟨_, rfl⟩
      rw [← hs] at hle2 ⊢
      have HSS := Lib.hid hs
      obtain ⟨Ad, cd, ud, hat⟩ := at_len HT.out v p
      have HAT := Lib.hid hat
      clear htx hp htk hle hlen hs hat
      go_wp2_with fail
      refine (at_any g b now v p F wr hpz (fun f hf => Nat.le_trans (HS.out.2 f hf) (by omega)) (HT2.out.below HBR.out)).mono ?_
      rw [HAT.out]
      rintro e w3 ⟨rfl, hb3⟩
      have HB3 := Lib.hid (below_from HBR.out hb3)
      clear hb3
      go_wp2_with fail
      go_roundw
      case rel => exact ⟨k + 1, by omega, by go_num, by rw [HTK.out, ← HSS.out]; go_num, HB3.out⟩
      case measure => simp [intOf]; omega
    · obtain rfl : k = L.1.length := by omega
      have htk : L.1.take L.1.length = L.1 := List.take_length
      have HTK := Lib.hid htk
      clear htk
      go_wp2_with fail
      go_ret
      exact ⟨(by first | (rw [HTK.out]; rfl) | rw [HTK.out]), below_from HB2.out HBR.out⟩
end Go.Proofs.YtkplkienbgoofaaGreatDoor

namespace Go.Proofs.YtkplkienbgoofaaGreatDoor
open Go.RowKit Go.Maps Go.WideMaps Go.WideAt
def allC (ps : List PartD) : List ChgD := ps.map PartD.chg
def diffP (ps : List PartD) : Int := (ps.map fun p => (p.cdata.length : Int) - (p.old.length : Int)).sum
theorem diffP_snoc (ps : List PartD) (k : Nat) (h : k < ps.length) : diffP (ps.take (k + 1)) = diffP (ps.take k) + ((ps[k].cdata.length : Int) - (ps[k].old.length : Int)) := by
  unfold diffP
  rw [List.take_succ_eq_append_getElem h, List.map_append, List.sum_append]
  simp
theorem diffP_le {ps : List PartD} (h : ∀ p ∈ ps, p.cdata.length ≤ 300000 ∧ p.old.length ≤ 300000) : -(300000 * (ps.length : Int)) ≤ diffP ps ∧ diffP ps ≤ 300000 * (ps.length : Int) := by
  induction ps with
  | nil => simp [diffP]
  | cons a t ih =>
    have h1 := h a List.mem_cons_self
    have h2 := ih (fun p hp => h p (List.mem_cons_of_mem _ hp))
    unfold diffP at h2 ⊢
    rw [List.map_cons, List.sum_cons, List.length_cons]
    omega
/-- How many bytes there were, and are to be. -/
def bytesP (now : Nat) (F : List FileS) (rt : ByteArray) (ps : List PartD) : Int := ((sumL (lenAt F now) (listT now F now rt).1 : Nat) : Int) + diffP ps
theorem sum_bound {w : World} {base g b now : Nat} {F : List FileS} (h : TreeAt w base g b now F) (hm : mapN F ≤ 90000) (v : Int) (root : ByteArray) : sumL (lenAt F v) (listT now F v root).1 ≤ 27000000000 := by
  have hs := h.small hm
  have hll := Nat.le_trans (list_len now F v root) hs.1
  have hle := sumL_le (l := (listT now F v root).1) (f := lenAt F v) (m := 300000) (fun q _ => lenAt_le h v q)
  exact Nat.le_trans hle (Nat.mul_le_mul_right 300000 hll)
def PCommitPost (j s g b pm now : Nat) (F : List FileS) (L : List Int) (m : ModD) (ps : List PartD) (over : Bool) (pv : Value) (bj base : Nat) (w : World) (e : Ending) (w' : World) : Prop :=
  ((over = true ∨ 0 < leftN ps) ∧ e = .returned (.tuple #[.int .i64 0, .int .i64 160]) ∧ Below w.heap.size w w') ∨
  (over = false ∧ leftN ps = 0 ∧ m.qu < bytesP now F m.rt ps ∧ e = .returned (.tuple #[.int .i64 0, .int .i64 171]) ∧ Below w.heap.size w w') ∨
  (over = false ∧ leftN ps = 0 ∧ bytesP now F m.rt ps ≤ m.qu ∧ chkT now F (allC ps) ≠ .nil ∧ e = .returned (.tuple #[.int .i64 0, .int .i64 (chkT now F (allC ps)).num]) ∧ Below w.heap.size w w') ∨
  (over = false ∧ leftN ps = 0 ∧ bytesP now F m.rt ps ≤ m.qu ∧ chkT now F (allC ps) = .nil ∧ ∃ B F1 F' w1, e = .returned (.tuple #[.int .i64 ((now : Int) + 1), .int .i64 0]) ∧ Puts (now + 1) B F (allC ps) F1 ∧ Forgot ((now + 1 : Nat) : Int) L F1 F' ∧ mapN F' ≤ mapN F + ps.length ∧ StoreAt w' base s g b pm (now + 1) F' L ∧ PJobAt w' bj j s m ps true pv ∧ SFrame w w1 ∧ FrB (fun k => k = j) w1 w' ∧ Below base w w')
set_option maxRecDepth 100000 in
set_option maxHeartbeats 16000000 in
theorem pcommit_any (j s g b pm now : Nat) (F : List FileS) (L : List Int) (m : ModD) (ps : List PartD) (over : Bool) (pv : Value) (w : World) {base bj : Nat} (hbj : base ≤ bj) (hps : ps.length ≤ 100) (hpz : ∀ p ∈ ps, p.cpath.size ≤ 140737488351232) (hrt : m.rt.size ≤ 1000) (hL : L.length ≤ 1000) (hm : mapN F ≤ 80000) (hnow : now ≤ 1048576) (hrise : RiseF now F) (hbase : base ≤ w.heap.size) (hj : PJobAt w bj j s m ps over pv) (hst : StoreAt w base s g b pm now F L) (hg : Env w) :
    Calls Tryz.prog 47 #[.pointer (some ⟨j, 0, none⟩)] w (PCommitPost j s g b pm now F L m ps over pv bj base w) := by
  obtain ⟨y0, y2, y5, y7, y8⟩ := hj.cells
  obtain ⟨A, c, rfl, hc⟩ := hj.slice
  have HLF := Lib.hid (left_any j s m ps over (.slice A ps.length c) w (by omega) hj)
  have HJ := Lib.hid hj
  have HST := Lib.hid hst
  have HG := Lib.hid hg
  have HRI := Lib.hid hrise
  have HPZ := Lib.hid hpz
  have hlen : ∀ p ∈ ps, p.cdata.length ≤ 300000 ∧ p.old.length ≤ 300000 := fun p hp => ⟨(hj.parts p hp).new.2.2, (hj.parts p hp).old.2.2⟩
  have HLEN := Lib.hid hlen
  have hsb := sum_bound hst.tree (by omega) now m.rt
  obtain ⟨sb, hsbe⟩ : ∃ sb, sb = sumL (lenAt F now) (listT now F now m.rt).1 := ⟨_, rfl⟩
  rw [← hsbe] at hsb
  have HSB := Lib.hid hsbe
  clear hj hst hg hrise hpz hlen hsbe
  cases over with
  | true =>
    go_enter Tryz.func47, Tryz.ntmps47
    go_wp2_with fail
    go_ret2
    exact .inl ⟨.inl rfl, rfl, Below.refl _ _⟩
  | false =>
    go_enter Tryz.func47, Tryz.ntmps47
    go_wp2_with fail
    refine HLF.out.mono ?_
    rintro e w1 ⟨rfl, hb1⟩
    have hlle := leftN_le ps
    obtain ⟨ln, hln⟩ : ∃ ln, ln = leftN ps := ⟨_, rfl⟩
    rw [← hln] at hlle ⊢
    have HLN := Lib.hid hln
    clear hln
    by_cases hl0 : 0 < ln
    · have d0 : decide ((0 : Int) < (ln : Int)) = true := by simp; omega
      have HB1 := Lib.hid hb1
      clear hb1
      go_wp2_with fail
      go_ret2
      exact .inl ⟨.inr (by rw [← HLN.out]; exact hl0), rfl, HB1.out⟩
    · have d0 : decide ((0 : Int) < (ln : Int)) = false := by simp; omega
      have H0 : Hid (leftN ps = 0) := Lib.hid (by rw [← HLN.out]; omega)
      have HB1 := Lib.hid hb1
      have HJ1 := Lib.hid (HJ.out.below hb1)
      have HS1 := Lib.hid (HST.out.below hb1)
      replace y0 := cell_below hb1 y0
      replace y2 := cell_below hb1 y2
      replace y5 := cell_below hb1 y5
      replace y7 := cell_below hb1 y7
      obtain ⟨x0, _, _⟩ := store_cells HS1.out
      clear hb1 y8
      have HND : Hid (∀ W, Below w1.heap.size w1 W → Calls Tryz.prog 19 #[.pointer (some ⟨g, 0, none⟩)] W fun e w' => e = .returned (.int .i64 now) ∧ w' = W) := Lib.hid (fun W hW => now_any g b now F W (HS1.out.below hW).tree)
      have HBD : Hid (∀ W, Below w1.heap.size w1 W → Calls Tryz.prog 79 #[.pointer (some ⟨g, 0, none⟩), .int .i64 now, .string m.rt] W fun e w' => e = .returned (.int .i64 (sb : Int)) ∧ Below W.heap.size W w') := Lib.hid (fun W hW => by rw [HSB.out]; exact bytes_any g b now now m.rt F W (by omega) (by omega) (HS1.out.below hW).tree)
      have hbd : Below w1.heap.size w1 w1.drew := Below.drew (Below.refl _ _)
      have HD := Lib.hid hbd
      obtain ⟨jc, hjc, hcz0, hcz1, hcz2⟩ := info_parts infoChange
      clear hbd
      go_wp2_with fail
      go_region_held3 (fun w' => w'.cell? ⟨j, 0, none⟩ = some (.pointer (some ⟨s, 0, none⟩)) ∧ w'.cell? ⟨s, 0, none⟩ = some (.pointer (some ⟨g, 0, none⟩)) ∧ w'.cell? ⟨j, 2, none⟩ = some (.string m.rt))
        (first
          | exact sx
          | (go_split_ands
             refine ⟨?_, ?_, ?_⟩ <;> first | assumption | go_keep))
        (first
         | (go_at_call 19
            refine (HND.out _ HD.out).mono ?_
            rintro e w2 ⟨rfl, h'⟩
            replace h' := h'.symm
            subst h')
         | (go_at_call 79
            refine (HBD.out _ HD.out).mono ?_
            rintro e w3 ⟨rfl, hb3⟩
            have sx : w3.cell? ⟨j, 0, none⟩ = some (.pointer (some ⟨s, 0, none⟩)) ∧ w3.cell? ⟨s, 0, none⟩ = some (.pointer (some ⟨g, 0, none⟩)) ∧ w3.cell? ⟨j, 2, none⟩ = some (.string m.rt) := ⟨cell_below (below_from HD.out hb3) y0, cell_below (below_from HD.out hb3) x0, cell_below (below_from HD.out hb3) y2⟩
            have HB3 := Lib.hid (below_from HD.out hb3)
            clear hb3))
      have HJ3 := Lib.hid (HJ1.out.below HB3.out)
      have HS3 := Lib.hid (HS1.out.below HB3.out)
      have HBT := Lib.hid (below_from HB1.out HB3.out)
      replace y0 := cell_below HB3.out y0
      replace y5 := cell_below HB3.out y5
      replace y7 := cell_below HB3.out y7
      clear sx x0 y2
      go_wp2_with fail
      go_loopw [4, 5, 45] (fun ov bv i wr => ∃ (k : Nat) (q : List ORow), k ≤ ps.length ∧ i = .int .i64 k ∧ bv = .int .i64 ((sb : Int) + diffP (ps.take k)) ∧ ChgOwn wr w3.heap.size bj ov q ∧ q.map ORow.chg = allC (ps.take k) ∧ q.length = k ∧ Below w3.heap.size w3 wr) (fun _ _ i _ => ps.length - (intOf i).toNat)
      case atStart => exact ⟨0, [], by omega, rfl, (by simp [diffP]), ChgOwn.nil _ _ _, rfl, rfl, Below.refl _ _⟩
      case round =>
        obtain ⟨k, q, hk, rfl, rfl, hco, hq, hql, hb⟩ := hrel
        obtain ⟨wk, rfl⟩ : ∃ W, W = wr := ⟨wr, rfl⟩
        have HCO := Lib.hid hco
        have HQ := Lib.hid hq
        have HQL := Lib.hid hql
        have HBW := Lib.hid hb
        have hszk := hb.size
        have hdb := diffP_le (ps := ps.take k) (fun p hp => HLEN.out p (List.mem_of_mem_take hp))
        rw [List.length_take] at hdb
        have hdb1 : -30000000 ≤ diffP (ps.take k) := by omega
        have hdb2 : diffP (ps.take k) ≤ 30000000 := by omega
        have hq100 : q.length ≤ 100 := by omega
        by_cases hlt : k < ps.length
        · obtain ⟨gp, c', he, _, hcell⟩ := (HJ3.out.below hb).form (by omega)
          have hA : A = some ⟨gp, 0, none⟩ := by injection he
          subst hA
          have z0 : wk.cell? ⟨gp, k * 7, none⟩ = some (.string ps[k].path) := hcell k hlt 0 (by omega)
          have z1 : wk.cell? ⟨gp, k * 7 + 1, none⟩ = some ps[k].oldv := hcell k hlt 1 (by omega)
          have z2 : wk.cell? ⟨gp, k * 7 + 2, none⟩ = some (.bool ps[k].staged) := hcell k hlt 2 (by omega)
          have z3 : wk.cell? ⟨gp, k * 7 + 3, none⟩ = some (.bool ps[k].redo) := hcell k hlt 3 (by omega)
          have z4 : wk.cell? ⟨gp, k * 7 + 4, none⟩ = some (.string ps[k].cpath) := hcell k hlt 4 (by omega)
          have z5 : wk.cell? ⟨gp, k * 7 + 5, none⟩ = some ps[k].cval := hcell k hlt 5 (by omega)
          have z6 : wk.cell? ⟨gp, k * 7 + 6, none⟩ = some (.bool ps[k].cgone) := hcell k hlt 6 (by omega)
          have hpa := (HJ3.out.below hb).parts ps[k] (List.getElem_mem hlt)
          obtain ⟨Ao, co, ho⟩ := own_slice hpa.old.1
          obtain ⟨Ac, cc, hcv⟩ := own_slice hpa.new.1
          have hsn := diffP_snoc ps k hlt
          have hll := HLEN.out ps[k] (List.getElem_mem hlt)
          have htk : allC (ps.take (k + 1)) = allC (ps.take k) ++ [ps[k].chg] := by unfold allC; rw [List.take_succ_eq_append_getElem hlt, List.map_append]; rfl
          obtain ⟨p, hp⟩ : ∃ p, p = ps[k] := ⟨_, rfl⟩
          rw [← hp] at z0 z1 z2 z3 z4 z5 z6 hpa hsn ho hcv hll htk
          rw [ho] at z1
          rw [hcv] at z5
          have hnew := hpa.new
          rw [hcv] at hnew
          obtain ⟨hl1, hl2⟩ := hll
          have HNEW := Lib.hid hnew
          have HSN := Lib.hid hsn
          have HTK := Lib.hid htk
          obtain ⟨dk, hdk⟩ : ∃ dk, dk = diffP (ps.take k) := ⟨_, rfl⟩
          rw [← hdk] at hdb1 hdb2 HSN ⊢
          have hbp := below_one wk (.cells #[.string p.path, .slice Ao p.old.length co, .bool p.staged, .bool p.redo, .string p.cpath, .slice Ac p.cdata.length cc, .bool p.cgone] 182)
          have hbc := below_one (wk.alloc (.cells #[.string p.path, .slice Ao p.old.length co, .bool p.staged, .bool p.redo, .string p.cpath, .slice Ac p.cdata.length cc, .bool p.cgone] 182)) (.cells #[.string p.cpath, .slice Ac p.cdata.length cc, .bool p.cgone] 90)
          have hnp := heap_alloc_new wk (.cells #[.string p.path, .slice Ao p.old.length co, .bool p.staged, .bool p.redo, .string p.cpath, .slice Ac p.cdata.length cc, .bool p.cgone] 182)
          have HNP := Lib.hid (block_below hnp hbc)
          have HSRC := Lib.hid (src_three (wk.alloc (.cells #[.string p.path, .slice Ao p.old.length co, .bool p.staged, .bool p.redo, .string p.cpath, .slice Ac p.cdata.length cc, .bool p.cgone] 182)) (.string p.cpath) (.slice Ac p.cdata.length cc) (.bool p.cgone) 90)
          have hs1 : (wk.alloc (.cells #[.string p.path, .slice Ao p.old.length co, .bool p.staged, .bool p.redo, .string p.cpath, .slice Ac p.cdata.length cc, .bool p.cgone] 182)).heap.size = wk.heap.size + 1 := by simp
          have HSRC2 := Lib.hid HSRC.out
          rw [hs1] at HSRC2
          have HC8 := Lib.hid ((HCO.out.below hbp).below hbc)
          have HD8 := Lib.hid ((HNEW.out.below hbp).below hbc)
          have HB8 := Lib.hid (below_from (below_from HBW.out hbp) hbc)
          have HOV : Hid (∀ b, u4.ownBlock = some b → b < wk.heap.size) := Lib.hid (fun b hb => (HCO.out.own.lt b hb).2)
          clear hcell he hpa ho hcv hsn hb hp hco hq hql htk hdk hbp hbc hnp hs1 HSRC hnew
          go_wp2_with (at_builtin; go_loud (refine wpList_append_own_at _ rfl (.tmp 49) (.tmp 52) 22 rfl w3.heap.size 90 jc (.agg #[.string ⟨#[]⟩, .slice none 0 0, .bool false]) 3 48 Tryz.underlying22 hjc hcz0 hcz1 hcz2 rfl (by decide) u4 q.length (flatO q) (by simp [Act.eval, Act.put]) HC8.out.own ⟨wk.heap.size + 1, 0, none⟩ 1 1 [.string p.cpath, .slice Ac p.cdata.length cc, .bool p.cgone] (by simp [Act.eval, Act.put]) rfl HSRC2.out (by simp [Value.oneCell']) (by unfold maxLen; omega) (by omega) HB8.out.size ?_; intro v9 w9 hown9 hg9 _ _; have hca := HC8.out.app (r := ⟨(p.cpath, p.cdata, p.cgone), .slice Ac p.cdata.length cc⟩) HD8.out hown9 hg9; have hn9 := (hg9.block wk.heap.size (lt_of_block HNP.out) (fun e => by (have := HOV.out _ e.symm; omega))).trans HNP.out; have y1 : w9.cell? ⟨wk.heap.size, 1, none⟩ = some (.slice Ao p.old.length co) := (by simp [World.cell?, hn9]); have y5b : w9.cell? ⟨wk.heap.size, 5, none⟩ = some (.slice Ac p.cdata.length cc) := (by simp [World.cell?, hn9]); have HCA := Lib.hid hca; have HB9 := Lib.hid (HB8.out.grown hg9 HB8.out.size (fun b hb => (HC8.out.own.lt b hb).1)); clear hown9 hg9 hca hn9))
          go_roundw
          case rel => exact ⟨k + 1, _, by omega, by go_num, (by rw [HSN.out]; go_num), HCA.out, (by rw [List.map_append, HTK.out, HQ.out]; rfl), (by rw [List.length_append, List.length_singleton, HQL.out]), HB9.out⟩
          case measure => simp [intOf]; omega
        · obtain rfl : k = ps.length := by omega
          rw [List.take_length] at hq hdb1 hdb2 ⊢
          have hBk := Lib.hid (HBT.out.trans (hb.mono HBT.out.size))
          have hJk := Lib.hid (HJ3.out.below hb)
          have hSk := Lib.hid (HS3.out.below hb)
          obtain ⟨A4, c4, rfl, hc4, hrow⟩ := hco.row
          rw [hq] at hc4 hrow ⊢
          have hal : (allC ps).length = ps.length := by unfold allC; rw [List.length_map]
          have HAL := Lib.hid hal
          have hal100 : (allC ps).length ≤ 100 := by omega
          have HTOT : Hid ((sb : Int) + diffP ps = bytesP now F m.rt ps) := Lib.hid (by rw [bytesP, ← HSB.out])
          have hlr : ∀ W, Below base wk W → TFrame b wk W → ChgRow W A4 (allC ps) := fun W _ hT => by
            obtain ⟨A', c', e, _, hr⟩ := (HCO.out.frame hT hSk.out.tree.noCells).row
            injection e with e1 e2 e3
            have hq2 : q.map ORow.chg = allC ps := by rw [HQ.out, List.take_length]
            rw [e1, ← hq2]
            exact hr
          have hgood : ∀ x ∈ allC ps, GoodC x := fun x hx => by
            obtain ⟨p, hp, rfl⟩ := List.mem_map.1 hx
            have := (hJk.out.parts p hp).new
            exact ⟨HPZ.out p hp, this.2.1, this.2.2⟩
          have hbasek : base ≤ wk.heap.size := Nat.le_trans hbase hBk.out.size
          have HSC := Lib.hid (scommit_any s g b pm now A4 c4 (allC ps) F L wk (base := base) hL (by omega) hlr hgood hm hnow HRI.out hbasek hSk.out (HG.out.below hBk.out).ml)
          replace y0 := cell_below hb y0
          replace y5 := cell_below hb y5
          clear hlr hgood hrow hco hq hb hal y7
          by_cases hqu : m.qu < (sb : Int) + diffP ps
          · have dq : decide (m.qu < (sb : Int) + diffP ps) = true := decide_eq_true hqu
            have HQU : Hid (m.qu < bytesP now F m.rt ps) := Lib.hid (by rw [← HTOT.out]; exact hqu)
            clear hqu
            go_wp2_with fail
            go_ret2
            exact .inr (.inl ⟨rfl, H0.out, HQU.out, rfl, hBk.out⟩)
          · have dq : decide (m.qu < (sb : Int) + diffP ps) = false := decide_eq_false hqu
            have HQU : Hid (bytesP now F m.rt ps ≤ m.qu) := Lib.hid (by rw [← HTOT.out]; omega)
            clear hqu
            go_wp2_with fail
            refine HSC.out.mono ?_
            intro e w5 hp
            rcases hp with ⟨hno, t, v, rfl, hev, _, hb5⟩ | ⟨hck, B, F1, F', rfl, hpu, hfo, hmF, hs5, hb5, hf5⟩
            · have HNO := Lib.hid hno
              have HB5 := Lib.hid (below_from hBk.out hb5)
              have HNUM := Lib.hid (number (.iface t v) _ w5 hev (HG.out.below HB5.out))
              clear hno hev hb5
              go_wp2_with fail
              refine HNUM.out.mono ?_
              rintro e w6 ⟨rfl, hb6⟩
              have HB6 := Lib.hid (below_from HB5.out hb6)
              clear hb6
              go_wp2_with fail
              go_ret2
              exact .inr (.inr (.inl ⟨rfl, H0.out, HQU.out, HNO.out, rfl, HB6.out⟩))
            · have hj5 := hJk.out.frame hf5
              have f8 := frozen_of_row w5 j 8 _ _ hj5.cell
              have q8 := hj5.cells.2.2.2.2
              have hset : FrB (fun k => k = j) w5 (w5.setCell ⟨j, 8, none⟩ (.bool true)) := FrB.set _ rfl
              have hTj : OfTypes w5 (fun k => k = j) [180] := fun k hk _ => by
                subst hk
                exact ⟨_, _, _, hj5.cell, by simp⟩
              have hs6 := hset.store hTj (by decide) (by decide) (by decide) (by decide) hs5
              have hj6 : PJobAt (w5.setCell ⟨j, 8, none⟩ (.bool true)) bj j s m ps true (.slice A ps.length c) := ⟨hj5.hj, by rw [heap_setCell_same w5 j 8 _ _ _ hj5.cell]; rfl, hset.own hj5.row (hTj.row hj5.row (by decide)), fun p hp => ⟨(hj5.parts p hp).old.fr hset (hTj.row (hj5.parts p hp).old.1 (by decide)), (hj5.parts p hp).new.fr hset (hTj.row (hj5.parts p hp).new.1 (by decide))⟩⟩
              have hbf : Below base w (w5.setCell ⟨j, 8, none⟩ (.bool true)) := (((hBk.out.mono hbase).trans hb5)).setCell (p := ⟨j, 8, none⟩) (by have := hj5.hj; show base ≤ j; omega) _
              have HCK := Lib.hid hck
              have HPU := Lib.hid hpu
              have HFO := Lib.hid hfo
              have HMF : Hid (mapN F' ≤ mapN F + ps.length) := Lib.hid (by rw [← HAL.out]; exact hmF)
              have HS6 := Lib.hid hs6
              have HJ6 := Lib.hid hj6
              have HF5 := Lib.hid ((SFrame.of_below hBk.out).trans hf5)
              have HSET := Lib.hid hset
              have HBF := Lib.hid hbf
              clear hck hpu hfo hmF hs5 hb5 hf5 hj5 hset hTj hs6 hj6 hbf
              go_wp2_with fail
              go_ret2
              exact .inr (.inr (.inr ⟨rfl, H0.out, HQU.out, HCK.out, B, F1, F', w5, rfl, HPU.out, HFO.out, HMF.out, HS6.out, HJ6.out, HF5.out, HSET.out, HBF.out⟩))
end Go.Proofs.YtkplkienbgoofaaGreatDoor

namespace Go.Proofs.YtkplkienbgoofaaGreatDoor
open Go.RowKit Go.Maps Go.WideMaps Go.WideAt
def modP (q : Int) : ModD := ⟨⟨#[109]⟩, ⟨#[114]⟩, true, 4, q, .slice none 0 0⟩
theorem module_any (q : Int) (w : World) : Calls Tryz.prog 41 #[.int .i64 q] w fun e w' => e = .returned (modP q).val ∧ Below w.heap.size w w' := by
  have hb := below_one w (.cells #[.string ⟨#[109]⟩, .string ⟨#[114]⟩, .bool true, .int .i64 4, .int .i64 q, .slice none 0 0] 36)
  go_enter Tryz.func41, Tryz.ntmps41
  go_wp2_with fail
  go_returns
  exact ⟨rfl, hb⟩
theorem readV_ok {w : World} {base s g b pm now : Nat} {F : List FileS} {L : List Int} (hst : StoreAt w base s g b pm now F L) (v : Int) (p : ByteArray) : (readV now F L v p).1.length ≤ 300000 ∧ ∀ x ∈ (readV now F L v p).1, (Lit.int .u8 x).wf = true := by
  unfold readV
  split
  · exact ⟨by simp, fun x h => by cases h⟩
  · unfold readT
    split
    · exact ⟨by simp, fun x h => by cases h⟩
    · cases hr : atRow F v p with
      | none => exact ⟨by simp, fun x h => by cases h⟩
      | some r =>
        have hd := hst.tree.data hr
        simp only
        split
        · exact ⟨by simp, fun x h => by cases h⟩
        · exact ⟨hd.2.2, hd.2.1⟩
theorem parts_one {ps : List PartD} {x : ByteArray} (h : ps.map PartD.path = [x]) : ∃ p, ps = [p] ∧ p.path = x := by
  match ps, h with
  | [p], h => exact ⟨p, rfl, by simpa using h⟩
theorem newE_a (q : Int) : newE (modP q) [⟨#[97]⟩] = .nil := by
  have h1 : checkB ⟨#[114, 47, 97]⟩ = none := by kernel_rfl
  have hj : joinB ⟨#[114]⟩ ⟨#[97]⟩ = ⟨#[114, 47, 97]⟩ := by
    rw [joinB_root (show (⟨#[114]⟩ : ByteArray).toList.isEmpty = false by rw [ByteArray.toList_eq]; rfl)]
    rfl
  have he : (⟨#[97]⟩ : ByteArray).toList.isEmpty = false := by rw [ByteArray.toList_eq]; rfl
  show pathsE ⟨#[114]⟩ [⟨#[97]⟩] = .nil
  unfold pathsE
  have hb : badP ⟨#[114]⟩ ⟨#[97]⟩ = false := by rw [badP, hj, h1, he]; rfl
  rw [joinGo, hb]
  simp only [joinGo, List.map_cons, List.map_nil, hj, setGo, h1, scan]
  rfl
theorem join_a : joinB ⟨#[114]⟩ ⟨#[97]⟩ = ⟨#[114, 47, 97]⟩ := by
  rw [joinB_root (show (⟨#[114]⟩ : ByteArray).toList.isEmpty = false by rw [ByteArray.toList_eq]; rfl)]
  rfl
set_option maxRecDepth 100000 in
set_option maxHeartbeats 8000000 in
theorem sends_any (w : World) (hg : Env w) : Calls Tryz.prog 39 #[] w fun e w' => e = .returned (.bool true) ∧ Below w.heap.size w w' := by
  have HG := Lib.hid hg
  have vx := fun (W : World) (g : Nat) (hg : g = W.heap.size) => Joins.run_convert_bytes_const_at (P := Tryz.prog) W 59 5 #[.int .u8 120] 1 1 g hg Tryz.underlying59 Tryz.underlying5
  clear hg
  go_enter Tryz.func39, Tryz.ntmps39
  go_wp2_with fail
  refine (new_store w).mono ?_
  rintro e w1 ⟨s, g, b, pm, rfl, hs1, hb1⟩
  have HS1 := Lib.hid hs1
  have HB1 := Lib.hid hb1
  clear hs1 hb1
  go_wp2_with fail
  refine (module_any 100 w1).mono ?_
  rintro e w2 ⟨rfl, hb2⟩
  have hba := below_one w2 (.cells #[.string ⟨#[97]⟩] 9)
  have HS3 := Lib.hid ((HS1.out.below hb2).below hba)
  have HB3 := Lib.hid (below_from (below_from HB1.out hb2) hba)
  have htx : TextRow (w2.alloc (.cells #[.string ⟨#[97]⟩] 9)) (some ⟨w2.heap.size, 0, none⟩) [⟨#[97]⟩] := fun _ => ⟨_, rfl, fun k hk => by
    obtain rfl : k = 0 := by simp at hk; omega
    exact cell_one_new w2 _ _ 0 _ rfl⟩
  have HTX := Lib.hid htx
  have hsz3 : w.heap.size ≤ w2.heap.size := by have := HB1.out.size; have := hb2.size; omega
  clear hb2 hba htx
  go_wp2_with fail
  refine (push_new s g b pm 0 [] [] (modP 100) (some ⟨w2.heap.size, 0, none⟩) 1 [⟨#[97]⟩] _ (base := w.heap.size) (by simp) HTX.out (fun x hx => by rw [List.mem_singleton.1 hx]; decide) (by decide) (by simp [mapN]) (by omega) (fun p => readV_ok HS3.out 0 p) HS3.out (HG.out.below HB3.out).ml).mono ?_
  rintro e w4 ⟨hb4, ⟨hne, _⟩ | ⟨_, j, pv, ps, rfl, hj4, hbeg⟩⟩
  · exact absurd (newE_a 100) hne
  have hpp := hbeg.path
  rw [show ([⟨#[97]⟩] : List ByteArray).map (joinB (modP 100).rt) = [⟨#[114, 47, 97]⟩] by show [joinB ⟨#[114]⟩ ⟨#[97]⟩] = _; rw [join_a]] at hpp
  obtain ⟨p, rfl, hpp2⟩ := parts_one hpp
  obtain ⟨⟨ov, hpe⟩, hold⟩ := hbeg.each p (by simp)
  have hold2 : p.old = [] := by rw [hold]; rfl
  have hstg : p.staged = false := by rw [hpe]; rfl
  have HJ4 := Lib.hid hj4
  have HS4 := Lib.hid (HS3.out.below hb4)
  have HB4 := Lib.hid (below_from HB3.out hb4)
  have hbx := below_one w4 (.cells #[.int .u8 120] 5 (1, 2))
  have hnx := heap_alloc_new w4 (.cells #[.int .u8 120] 5 (1, 2))
  have hbr : ByteRow (w4.alloc (.cells #[.int .u8 120] 5 (1, 2))) (some ⟨w4.heap.size, 0, none⟩) [120] := fun ad ea j u hj => by
    injection ea with ea
    subst ea
    rw [Addr.add_lit]
    match j, hj with
    | 0, hj =>
      have : u = .int .u8 120 := by simpa [u8V] using hj.symm
      subst this
      unfold World.cell?
      simp only [hnx]
      rfl
  have HBR := Lib.hid hbr
  have HJ5 := Lib.hid (HJ4.out.below hbx)
  have HS5 := Lib.hid (HS4.out.below hbx)
  have HB5 := Lib.hid (below_from HB4.out hbx)
  have hszx : (w2.alloc (.cells #[.string ⟨#[97]⟩] 9)).heap.size ≤ w4.heap.size := hb4.size
  have HSTG := Lib.hid hstg
  have HP2 := Lib.hid hpp2
  have HO2 := Lib.hid hold2
  clear hj4 hb4 hbx hnx hbr hpp hpe hold hold2 hstg hpp2 hbeg
  go_wp2_with fail
  refine (full_any j s (modP 100) [p] false pv 0 (some ⟨w4.heap.size, 0, none⟩) 1 [120] (w4.alloc (.cells #[.int .u8 120] 5 (1, 2))) (by simp at hszx ⊢; omega) (by simp) HBR.out (fun h => by cases h) (fun x hx => by rw [List.mem_singleton.1 hx]; decide) (by simp) HJ5.out).mono ?_
  have hpc : partC [p] false 0 = 0 := by
    unfold partC
    rw [if_neg (by decide), if_neg (by simp)]
    show (if p.staged = true then (5 : Int) else 0) = 0
    rw [HSTG.out]; rfl
  rintro e w6 (⟨hne, _⟩ | ⟨_, h8, _⟩ | ⟨_, _, n, hn, dv, hn0, rfl, hj6, hf6⟩)
  · exact absurd hpc hne
  · simp at h8
  obtain rfl : n = 0 := by omega
  have hj7 : PJobAt w6 (w2.alloc (.cells #[.string ⟨#[97]⟩] 9)).heap.size j s (modP 100) [sentP p dv [120]] false pv := hj6
  have hs7 := HJ5.out.store hf6 HS5.out
  have hbb : w.heap.size ≤ (w2.alloc (.cells #[.string ⟨#[97]⟩] 9)).heap.size := by simp; omega
  have hB6 : Below w.heap.size w w6 := HB5.out.trans (hf6.below HB5.out.size (fun k hk => Nat.le_trans hbb (HJ5.out.from_ k hk)))
  have HJ7 := Lib.hid hj7
  have HS7 := Lib.hid hs7
  have HB6 := Lib.hid hB6
  have HCP : Hid ((sentP p dv [120]).chg = (⟨#[114, 47, 97]⟩, [120], false)) := Lib.hid (by
    show (p.path, [(120 : Int)], false) = _
    rw [HP2.out])
  have hri0 : RiseF ((0 : Nat) : Int) [] := fun f hf => by cases hf
  clear hj6 hf6 hj7 hs7 hB6 hn0 hpc
  go_wp2_with fail
  refine (pcommit_any j s g b pm 0 [] [] (modP 100) [sentP p dv [120]] false pv w6 (base := w.heap.size) hbb (by simp) (fun x hx => by rw [List.mem_singleton.1 hx]; show p.path.size ≤ _; rw [HP2.out]; decide) (by decide) (by simp) (by simp [mapN]) (by omega) hri0 HB6.out.size HJ7.out HS7.out (HG.out.below HB6.out)).mono ?_
  have hall : allC [sentP p dv [120]] = [(⟨#[114, 47, 97]⟩, [120], false)] := by show [(sentP p dv [120]).chg] = _; rw [HCP.out]
  have hck : chkT 0 [] (allC [sentP p dv [120]]) = .nil := by rw [hall]; exact chk_put (by kernel_rfl) (fun f hf => by cases hf) (by simp) (by omega)
  have hby : bytesP 0 [] (modP 100).rt [sentP p dv [120]] = 1 := by
    have h1 : diffP [sentP p dv [120]] = 1 := by
      show (([(120 : Int)].length : Int) - (p.old.length : Int)) + 0 = 1
      rw [HO2.out]; rfl
    have h2 : (listT 0 [] ((0 : Nat) : Int) (modP 100).rt).1 = [] := by rw [listT, if_neg (by omega)]; simp [sortB]
    rw [bytesP, h1, h2]
    rfl
  rintro e w8 (⟨h, _⟩ | ⟨_, _, h, _⟩ | ⟨_, _, _, h, _⟩ | ⟨_, _, _, _, B, F1, F', w7, rfl, hpu, hfo, _, hs8, _, _, _, hb8⟩)
  · rcases h with h | h
    · cases h
    · exact absurd h (by show ¬ 0 < 0; omega)
  · rw [hby] at h
    exact absurd h (by show ¬ (100 : Int) < 1; omega)
  · exact absurd hck h
  rw [hall] at hpu
  obtain ⟨v1, dv1, rfl⟩ := puts_one hpu _ rfl
  have hput1 : putS [] ⟨#[114, 47, 97]⟩ v1 ⟨((0 + 1 : Nat) : Int), dv1, [120], false⟩ = [⟨⟨#[114, 47, 97]⟩, v1, [⟨((0 + 1 : Nat) : Int), dv1, [120], false⟩]⟩] := rfl
  rw [show putS [] ((⟨#[114, 47, 97]⟩, [120], false) : ChgD).1 v1 ⟨((0 + 1 : Nat) : Int), dv1, ((⟨#[114, 47, 97]⟩, [120], false) : ChgD).2.1, ((⟨#[114, 47, 97]⟩, [120], false) : ChgD).2.2⟩ = [⟨⟨#[114, 47, 97]⟩, v1, [⟨((0 + 1 : Nat) : Int), dv1, [120], false⟩]⟩] from rfl] at hfo
  obtain ⟨w1v, rfl⟩ := forgot_one hfo (look_rows1 dv1) (by simp)
  have hr1 : readV (0 + 1) [⟨⟨#[114, 47, 97]⟩, w1v, [⟨((0 + 1 : Nat) : Int), dv1, [120], false⟩]⟩] [] 1 ⟨#[114, 47, 97]⟩ = ([120], 0) := rfl
  have HR1 := Lib.hid hr1
  have HS8 := Lib.hid hs8
  have HB8 := Lib.hid (HB6.out.trans hb8)
  clear hpu hfo hput1 hr1 hs8 hb8 hall hck hby
  go_wp2_with fail
  refine (sread_any s g b pm (0 + 1) _ [] 1 ⟨#[114, 47, 97]⟩ [120] 0 w8 (base := w.heap.size) (by decide) (by decide) (by simp [mapN]) HS8.out HR1.out).mono ?_
  rintro e w9 ⟨A9, c9, rfl, hcv, _, hb9⟩
  have cv1 : (convert 59 9 (.slice A9 1 c9)).run Tryz.prog w9 = .ok (.string (strOfNums [120])) w9 := hcv w9 (Below.refl _ _)
  rw [show strOfNums [120] = (⟨#[120]⟩ : ByteArray) by rfl] at cv1
  have HB9 := Lib.hid (below_from HB8.out hb9)
  clear hcv hb9
  go_wp2_with fail
  go_ret
  exact ⟨rfl, HB9.out⟩
end Go.Proofs.YtkplkienbgoofaaGreatDoor

namespace Go.Proofs.YtkplkienbgoofaaGreatDoor
open Go.RowKit Go.Maps Go.WideMaps Go.WideAt
open Go.Proofs.YtkplkienbgoofaaGreatDoorW.PrintWords (Kd ReadsRow)
/-- The first k files were sent. -/
structure SentK (paths : List ByteArray) (d : List Int) (k : Nat) (ps : List PartD) : Prop where
  len : ps.length = paths.length
  done : ∀ i (h : i < ps.length) (h2 : i < paths.length), i < k → ps[i].staged = true ∧ ps[i].chg = (paths[i], d, false)
  todo : ∀ i (h : i < ps.length) (h2 : i < paths.length), k ≤ i → ps[i].staged = false ∧ ps[i].path = paths[i]
theorem SentK.begun {now : Nat} {F : List FileS} {L : List Int} {paths : List ByteArray} {ps : List PartD} (h : Begun now F L paths ps) (d : List Int) : SentK paths d 0 ps := by
  have hl : ps.length = paths.length := by rw [← h.path, List.length_map]
  refine ⟨hl, fun i _ _ h => by omega, fun i h1 h2 _ => ?_⟩
  obtain ⟨⟨ov, e⟩, _⟩ := h.each ps[i] (List.getElem_mem h1)
  refine ⟨by rw [e]; rfl, ?_⟩
  have : (ps.map PartD.path)[i]'(by rw [List.length_map]; exact h1) = paths[i] := by simp only [h.path]
  rw [List.getElem_map] at this
  exact this
theorem SentK.next {paths : List ByteArray} {d : List Int} {k : Nat} {ps : List PartD} (h : SentK paths d k ps) (hk : k < ps.length) (v : Value) : SentK paths d (k + 1) (ps.set k (sentP ps[k] v d)) := by
  refine ⟨by rw [List.length_set]; exact h.len, fun i h1 h2 hi => ?_, fun i h1 h2 hi => ?_⟩
  · rw [List.length_set] at h1
    rw [List.getElem_set]
    split
    · rename_i e
      subst e
      have := h.todo k h1 h2 (Nat.le_refl _)
      refine ⟨rfl, ?_⟩
      show (ps[k].path, d, false) = _
      rw [this.2]
    · exact h.done i h1 h2 (by omega)
  · rw [List.length_set] at h1
    rw [List.getElem_set, if_neg (by omega)]
    exact h.todo i h1 h2 (by omega)
theorem SentK.chgs {paths : List ByteArray} {d : List Int} {k : Nat} {ps : List PartD} (h : SentK paths d k ps) (hk : k ≤ paths.length) : chgsP ps = (paths.take k).map fun p => (p, d, false) := by
  have hl := h.len
  have h1 : (ps.take k).filter PartD.staged = ps.take k := List.filter_eq_self.2 (fun p hp => by
    obtain ⟨i, hi, rfl⟩ := List.getElem_of_mem hp
    rw [List.length_take] at hi
    rw [List.getElem_take]
    exact (h.done i (by omega) (by omega) (by omega)).1)
  have h2 : (ps.drop k).filter PartD.staged = [] := List.filter_eq_nil_iff.2 (fun p hp => by
    obtain ⟨i, hi, rfl⟩ := List.getElem_of_mem hp
    rw [List.length_drop] at hi
    rw [List.getElem_drop]
    rw [(h.todo (k + i) (by omega) (by omega) (by omega)).1]
    decide)
  unfold chgsP
  conv => lhs; rw [← List.take_append_drop k ps]
  rw [List.filter_append, h1, h2, List.append_nil]
  refine List.ext_getElem (by simp; omega) (fun i h3 h4 => ?_)
  simp only [List.getElem_map, List.getElem_take]
  rw [List.length_map, List.length_take] at h3
  exact (h.done i (by omega) (by omega) (by omega)).2
theorem SentK.left {paths : List ByteArray} {d : List Int} {ps : List PartD} (h : SentK paths d paths.length ps) : leftN ps = 0 := by
  unfold leftN
  rw [List.length_eq_zero_iff]
  refine List.filter_eq_nil_iff.2 (fun p hp => ?_)
  obtain ⟨i, hi, rfl⟩ := List.getElem_of_mem hp
  rw [(h.done i hi (by have := h.len; omega) (by have := h.len; omega)).1]
  decide
theorem SentK.may {paths : List ByteArray} {d : List Int} {k : Nat} {ps : List PartD} (h : SentK paths d k ps) (hk : k < paths.length) : partC ps false (k : Int) = 0 := by
  have hl := h.len
  unfold partC
  rw [if_neg (by decide), if_neg (by omega), Int.toNat_natCast]
  have : ps.getD k (partN ⟨#[]⟩ .nilIface []) = ps[k] := by simp [List.getD, hl, hk]
  rw [this, (h.todo k (by omega) hk (Nat.le_refl _)).1]
  rfl
def fitN (ns : List ByteArray) : Bool := decide (ns.length ≤ 20) && ns.all fun n => decide (n.size ≤ 100)
theorem fitN_out {ns : List ByteArray} (h : fitN ns = true) : ns.length ≤ 20 ∧ ∀ n ∈ ns, n.size ≤ 100 := by
  simp only [fitN, Bool.and_eq_true, decide_eq_true_eq, List.all_eq_true] at h
  exact h
set_option maxRecDepth 100000 in
set_option maxHeartbeats 4000000 in
theorem fits_names (A : Option Addr) (c : Nat) (ns : List ByteArray) (w : World) (hl : ns.length ≤ 9223372036854775807) (hc : TextRow w A ns) (hz : ∀ s ∈ ns, s.size ≤ 9223372036854775807) :
    Calls Tryz.prog 40 #[.slice none 0 0, .slice A ns.length c, .slice none 0 0] w fun e w' => e = .returned (.bool (fitN ns)) ∧ Below w.heap.size w w' := by
  have HC := Lib.hid hc
  have HZ := Lib.hid hz
  clear hc hz
  by_cases h20 : ns.length ≤ 20
  · have d1 : decide ((20 : Int) < (ns.length : Int)) = false := by simp; omega
    go_enter Tryz.func40, Tryz.ntmps40
    go_wp2_with fail
    refine wp_loop_rounds 1 ?_
    rw [rounds_succ]
    go_wp2_with fail
    go_loopw [57] (fun i wr => wr = w ∧ ∃ k : Nat, k ≤ ns.length ∧ i = .int .i64 k ∧ ∀ j (hj : j < ns.length), j < k → ns[j].size ≤ 100) (fun i _ => ns.length - (intOf i).toNat)
    case atStart => exact ⟨rfl, 0, by omega, rfl, fun j hj h => by omega⟩
    case round =>
      obtain ⟨hw, k, hk, rfl, hall⟩ := hrel
      subst hw
      have HALL := Lib.hid hall
      clear hall
      by_cases hlt : k < ns.length
      · obtain ⟨ad, rfl, hT⟩ := HC.out (by omega)
        have x1 := hT k hlt
        have hz1 := HZ.out ns[k] (List.getElem_mem hlt)
        obtain ⟨p, hp⟩ : ∃ p, p = ns[k] := ⟨_, rfl⟩
        rw [← hp] at x1 hz1
        have HP := Lib.hid hp
        clear hT hp
        by_cases h1 : p.size ≤ 100
        · have d2 : decide ((100 : Int) < (p.size : Int)) = false := by simp; omega
          go_wp2_with fail
          go_roundw
          case rel => exact ⟨trivial, k + 1, by omega, by go_num, fun j hj h => by
            by_cases e : j = k
            · subst e; rw [← HP.out]; exact h1
            · exact HALL.out j hj (by omega)⟩
          case measure => simp [intOf]; omega
        · have d2 : decide ((100 : Int) < (p.size : Int)) = true := by simp; omega
          have HF : Hid (fitN ns = false) := Lib.hid (by
            have : ns.all (fun n => decide (n.size ≤ 100)) = false := List.all_eq_false.2 ⟨p, by rw [HP.out]; exact List.getElem_mem hlt, by simpa using h1⟩
            rw [fitN, this, Bool.and_false])
          go_wp2_with fail
          go_ret
          exact ⟨ret_bool HF.out.symm, Below.refl _ _⟩
      · obtain rfl : k = ns.length := by omega
        have HF : Hid (fitN ns = true) := Lib.hid (by
          rw [fitN, decide_eq_true h20, Bool.true_and]
          exact List.all_eq_true.2 (fun p hp => by
            obtain ⟨j, hj, rfl⟩ := List.getElem_of_mem hp
            exact decide_eq_true (HALL.out j hj hj)))
        go_wp2_with fail
        refine wp_loop_rounds 1 ?_
        rw [rounds_succ]
        go_wp2_with fail
        go_ret
        exact ⟨ret_bool HF.out.symm, Below.refl _ _⟩
  · have d1 : decide ((20 : Int) < (ns.length : Int)) = true := by simp; omega
    have HF : Hid (fitN ns = false) := Lib.hid (by rw [fitN, decide_eq_false h20]; rfl)
    go_enter Tryz.func40, Tryz.ntmps40
    go_wp2_with fail
    go_ret
    exact ⟨ret_bool HF.out.symm, Below.refl _ _⟩
end Go.Proofs.YtkplkienbgoofaaGreatDoor

namespace Go.Proofs.YtkplkienbgoofaaGreatDoor
open Go.RowKit Go.Maps Go.WideMaps Go.WideAt
def nmB (i : Nat) : ByteArray := ⟨#[UInt8.ofNat (97 + i)]⟩
def ptB (i : Nat) : ByteArray := ⟨#[114, 47, UInt8.ofNat (97 + i)]⟩
theorem nm_join (i : Nat) : joinB ⟨#[114]⟩ (nmB i) = ptB i := by
  rw [joinB_root (show (⟨#[114]⟩ : ByteArray).toList.isEmpty = false by rw [ByteArray.toList_eq]; rfl)]
  rfl
theorem nm_some (i : Nat) : (nmB i).toList.isEmpty = false := by rw [ByteArray.toList_eq]; rfl
theorem pt_check : ∀ i, i < 8 → checkB (ptB i) = none
  | 0, _ => by kernel_rfl
  | 1, _ => by kernel_rfl
  | 2, _ => by kernel_rfl
  | 3, _ => by kernel_rfl
  | 4, _ => by kernel_rfl
  | 5, _ => by kernel_rfl
  | 6, _ => by kernel_rfl
  | 7, _ => by kernel_rfl
theorem pt_clashes : ((List.range 8).all fun i => (List.range 8).all fun j => decide (i = j) || !clashB (ptB i) (ptB j)) = true := by kernel_rfl
theorem pt_differ : ((List.range 8).all fun i => (List.range 8).all fun j => decide (i = j) || !decide (ptB i = ptB j)) = true := by kernel_rfl
theorem pt_set : ∀ n, n ≤ 8 → (setGo 0 [] ((List.range n).map ptB)).err = .nil
  | 0, _ => by kernel_rfl
  | 1, _ => by kernel_rfl
  | 2, _ => by kernel_rfl
  | 3, _ => by kernel_rfl
  | 4, _ => by kernel_rfl
  | 5, _ => by kernel_rfl
  | 6, _ => by kernel_rfl
  | 7, _ => by kernel_rfl
  | 8, _ => by kernel_rfl
theorem pt_clash : ∀ n, n ≤ 8 → clashL ((List.range n).map ptB) = false
  | 0, _ => by kernel_rfl
  | 1, _ => by kernel_rfl
  | 2, _ => by kernel_rfl
  | 3, _ => by kernel_rfl
  | 4, _ => by kernel_rfl
  | 5, _ => by kernel_rfl
  | 6, _ => by kernel_rfl
  | 7, _ => by kernel_rfl
  | 8, _ => by kernel_rfl
theorem pt_inj {i j : Nat} (hi : i < 8) (hj : j < 8) (h : ptB i = ptB j) : i = j := by
  have h1 := List.all_eq_true.1 pt_differ i (List.mem_range.2 hi)
  have h2 := List.all_eq_true.1 h1 j (List.mem_range.2 hj)
  simp only [Bool.or_eq_true, decide_eq_true_eq, Bool.not_eq_true', decide_eq_false_iff_not] at h2
  rcases h2 with h2 | h2
  · exact h2
  · exact absurd h h2
theorem pt_once {n : Nat} (hn : n ≤ 8) : ((List.range n).map ptB).Nodup := by
  rw [List.nodup_iff_pairwise_ne, List.pairwise_map]
  exact List.Pairwise.imp_of_mem (fun {a b} ha hb hne e => hne (pt_inj (by have := List.mem_range.1 ha; omega) (by have := List.mem_range.1 hb; omega) e)) (List.nodup_iff_pairwise_ne.1 List.nodup_range)
theorem joinGo_none {rt : ByteArray} : ∀ {l : List ByteArray} {i : Nat}, (∀ x ∈ l, badP rt x = false) → joinGo rt i l = none
  | [], _, _ => rfl
  | n :: t, i, h => by
    rw [joinGo, h n List.mem_cons_self, if_neg (by decide)]
    exact joinGo_none (fun x hx => h x (List.mem_cons_of_mem _ hx))
theorem nm_paths (n : Nat) : ((List.range n).map nmB).map (joinB ⟨#[114]⟩) = (List.range n).map ptB := by
  rw [List.map_map]
  exact List.map_congr_left (fun i _ => nm_join i)
theorem newE_names (q : Int) {n : Nat} (h0 : 0 < n) (h8 : n ≤ 8) : newE (modP q) ((List.range n).map nmB) = .nil := by
  have hl : ((List.range n).map nmB).length = n := by simp
  unfold newE
  rw [show (modP q).wr = true from rfl, if_neg (by decide), if_neg (by omega), show (modP q).rt = ⟨#[114]⟩ from rfl]
  unfold pathsE
  rw [joinGo_none (fun x hx => by
    obtain ⟨i, hi, rfl⟩ := List.mem_map.1 hx
    have := List.mem_range.1 hi
    rw [badP, nm_join, pt_check i (by omega), nm_some]
    rfl)]
  simp only [nm_paths]
  exact pt_set n h8
theorem chkGo_new (T : ByteArray → Bool) : ∀ (l : List ChgD) (i : Nat) (seen after : List ByteArray) (m : Nat), (∀ c ∈ l, checkB c.1 = none ∧ c.2.2 = false) → (seen ++ l.map (·.1)).Nodup → chkGo T i seen after m l = .ok (after ++ l.map (·.1)) (m + (l.map fun c => c.2.1.length).sum)
  | [], i, seen, after, m, _, _ => by simp [chkGo]
  | c :: r, i, seen, after, m, h, hn => by
    obtain ⟨h1, h2⟩ := h c List.mem_cons_self
    have hm : memB c.1 seen = false := by
      rw [memB, List.any_eq_false]
      intro q hq
      simp only [decide_eq_true_eq]
      intro e
      rw [List.map_cons, List.nodup_append] at hn
      exact hn.2.2 q hq c.1 List.mem_cons_self e
    rw [chkGo, h1, hm, h2]
    simp only [Option.isSome_none, Bool.false_eq_true, if_false, Bool.false_and]
    rw [chkGo_new T r (i + 1) (seen ++ [c.1]) (after ++ [c.1]) _ (fun x hx => h x (List.mem_cons_of_mem _ hx)) (by simpa using hn)]
    simp only [List.map_cons, List.append_assoc, List.singleton_append, List.sum_cons]
    rw [Nat.add_assoc]
theorem sum_le_mul {α : Type} (f : α → Nat) (b : Nat) : ∀ (l : List α), (∀ x ∈ l, f x ≤ b) → (l.map f).sum ≤ b * l.length
  | [], _ => by simp
  | a :: t, h => by
    have h1 := h a List.mem_cons_self
    have h2 := sum_le_mul f b t (fun x hx => h x (List.mem_cons_of_mem _ hx))
    simp only [List.map_cons, List.sum_cons, List.length_cons, Nat.mul_add, Nat.mul_one]
    omega
theorem list_none (v : Int) (rt : ByteArray) : (listT 0 [] v rt).1 = [] := by
  unfold listT
  split
  · rfl
  · simp [sortB]
theorem chk_names {n : Nat} (h8 : n ≤ 8) {l : List ChgD} (hp : l.map (·.1) = (List.range n).map ptB) (hc : ∀ c ∈ l, c.2.2 = false ∧ c.2.1.length ≤ 1000) : chkT 0 [] l = .nil := by
  have hl : l.length = n := by have := congrArg List.length hp; simpa using this
  have hgo : chkGo (thereB [] ((0 : Nat) : Int)) 0 [] [] 0 l = .ok ([] ++ l.map (·.1)) (0 + (l.map fun c => c.2.1.length).sum) := chkGo_new _ l 0 [] [] 0 (fun c hc' => by
    refine ⟨?_, (hc c hc').1⟩
    have : c.1 ∈ (List.range n).map ptB := by rw [← hp]; exact List.mem_map.2 ⟨c, hc', rfl⟩
    obtain ⟨i, hi, e⟩ := List.mem_map.1 this
    rw [← e]
    exact pt_check i (by have := List.mem_range.1 hi; omega)) (by rw [List.nil_append, hp]; exact pt_once h8)
  have hs : stayL [] 0 (l.map (·.1)) = [] := by
    unfold stayL
    rw [show ((0 : Nat) : Int) = 0 from rfl, list_none]
    rfl
  have hsum := sum_le_mul (fun c : ChgD => c.2.1.length) 1000 l (fun c hc' => (hc c hc').2)
  unfold chkT
  rw [hgo]
  simp only
  rw [hs]
  simp only [List.nil_append, List.append_nil, sumL, List.map_nil, List.sum_nil, Nat.zero_add, Nat.add_zero]
  unfold endT
  rw [hp, pt_clash n h8, if_neg (by decide), if_neg (by simp; omega)]
/-- Who is sent in which turn. -/
def rotN (n t k : Nat) : Nat := if k + t < n then k + t else k + t - n
structure StgK (ds : List (List Int)) (t k : Nat) (ps : List PartD) : Prop where
  len : ps.length = ds.length
  part : ∀ i (h : i < ps.length), ps[i].old = [] ∧ ps[i].path = ptB i
  done : ∀ i (h : i < ps.length) (h2 : i < ds.length), (∃ k', k' < k ∧ rotN ds.length t k' = i) → ps[i].staged = true ∧ ps[i].chg = (ptB i, ds[i], false)
  todo : ∀ i (h : i < ps.length), (∀ k', k' < k → rotN ds.length t k' ≠ i) → ps[i].staged = false
theorem StgK.begun {ds : List (List Int)} {ps : List PartD} (t : Nat) (h : Begun 0 [] [] ((List.range ds.length).map ptB) ps) : StgK ds t 0 ps := by
  have hl : ps.length = ds.length := by have := congrArg List.length h.path; simpa using this
  refine ⟨hl, fun i hi => ?_, fun i _ _ ⟨k, hk, _⟩ => by omega, fun i hi _ => ?_⟩
  · obtain ⟨_, e⟩ := h.each ps[i] (List.getElem_mem hi)
    refine ⟨?_, ?_⟩
    · rw [e]
      unfold readV
      split
      · rfl
      · unfold readT
        split
        · rfl
        · rfl
    · have : (ps.map PartD.path)[i]'(by rw [List.length_map]; exact hi) = ((List.range ds.length).map ptB)[i]'(by simp; omega) := by simp only [h.path]
      simpa using this
  · obtain ⟨⟨ov, e⟩, _⟩ := h.each ps[i] (List.getElem_mem hi)
    rw [e]; rfl
theorem StgK.next {ds : List (List Int)} {t k : Nat} {ps : List PartD} (h : StgK ds t k ps) (ht : t < ds.length) (hk : k < ds.length) {n : Nat} (hn : n = rotN ds.length t k) (hp : n < ps.length) (v : Value) {d : List Int} (hd : ds[n]? = some d) : StgK ds t (k + 1) (ps.set n (sentP ps[n] v d)) := by
  have hl := h.len
  refine ⟨by rw [List.length_set]; exact hl, fun i hi => ?_, fun i hi hi2 ⟨k', hk', e⟩ => ?_, fun i hi ht' => ?_⟩
  · rw [List.length_set] at hi
    rw [List.getElem_set]
    split
    · rename_i e
      subst e
      exact h.part _ hi
    · exact h.part i hi
  · rw [List.length_set] at hi
    rw [List.getElem_set]
    split
    · rename_i e2
      subst e2
      refine ⟨rfl, ?_⟩
      show (ps[n].path, d, false) = _
      rw [(h.part n hp).2]
      have : ds[n] = d := by rw [List.getElem?_eq_getElem hi2] at hd; exact Option.some.inj hd
      rw [this]
    · rename_i e2
      refine h.done i hi hi2 ⟨k', ?_, e⟩
      by_cases e3 : k' = k
      · subst e3; exact absurd (hn.trans e) e2
      · omega
  · rw [List.length_set] at hi
    rw [List.getElem_set, if_neg (fun e => ht' k (by omega) (hn.symm.trans e))]
    exact h.todo i hi (fun k' hk' => ht' k' (by omega))
theorem StgK.may {ds : List (List Int)} {t k : Nat} {ps : List PartD} (h : StgK ds t k ps) (ht : t < ds.length) (hk : k < ds.length) {n : Nat} (hn : n = rotN ds.length t k) : partC ps false (n : Int) = 0 := by
  have hl := h.len
  have hnl : n < ps.length := by rw [hn, rotN]; split <;> omega
  unfold partC
  rw [if_neg (by decide), if_neg (by omega), Int.toNat_natCast]
  have : ps.getD n (partN ⟨#[]⟩ .nilIface []) = ps[n] := by simp [List.getD, hnl]
  rw [this, h.todo n hnl (fun k' hk' => by rw [hn, rotN, rotN]; split <;> split <;> omega)]
  rfl
theorem StgK.all {ds : List (List Int)} {t : Nat} {ps : List PartD} (h : StgK ds t ds.length ps) (ht : t < ds.length) : ∀ i (h1 : i < ps.length) (h2 : i < ds.length), ps[i].staged = true ∧ ps[i].chg = (ptB i, ds[i], false) := fun i h1 h2 =>
  h.done i h1 h2 (if ht' : t ≤ i then ⟨i - t, by omega, by rw [rotN]; split <;> omega⟩ else ⟨i + ds.length - t, by omega, by rw [rotN]; split <;> omega⟩)
theorem StgK.left {ds : List (List Int)} {t : Nat} {ps : List PartD} (h : StgK ds t ds.length ps) (ht : t < ds.length) : leftN ps = 0 := by
  unfold leftN
  rw [List.length_eq_zero_iff]
  refine List.filter_eq_nil_iff.2 (fun p hp => ?_)
  obtain ⟨i, hi, rfl⟩ := List.getElem_of_mem hp
  rw [(h.all ht i hi (by have := h.len; omega)).1]
  decide
theorem StgK.paths {ds : List (List Int)} {t : Nat} {ps : List PartD} (h : StgK ds t ds.length ps) (ht : t < ds.length) : (allC ps).map (·.1) = (List.range ds.length).map ptB := by
  have hl := h.len
  refine List.ext_getElem (by simp [allC, hl]) (fun i h1 h2 => ?_)
  have h3 : i < ps.length := by simpa [allC] using h1
  simp only [allC, List.getElem_map, List.getElem_range]
  rw [(h.all ht i h3 (by omega)).2]
theorem StgK.small {ds : List (List Int)} {t : Nat} {ps : List PartD} (h : StgK ds t ds.length ps) (ht : t < ds.length) (hd : ∀ d ∈ ds, d.length ≤ 1000) : ∀ c ∈ allC ps, c.2.2 = false ∧ c.2.1.length ≤ 1000 := fun c hc => by
  obtain ⟨p, hp, rfl⟩ := List.mem_map.1 hc
  obtain ⟨i, hi, rfl⟩ := List.getElem_of_mem hp
  rw [(h.all ht i hi (by have := h.len; omega)).2]
  exact ⟨rfl, hd _ (List.getElem_mem _)⟩
theorem isum_le {α : Type} (f : α → Int) (b : Nat) : ∀ (l : List α), (∀ x ∈ l, f x ≤ b) → (l.map f).sum ≤ ((b * l.length : Nat) : Int)
  | [], _ => by simp
  | a :: t, h => by
    have h1 := h a List.mem_cons_self
    have h2 := isum_le f b t (fun x hx => h x (List.mem_cons_of_mem _ hx))
    simp only [List.map_cons, List.sum_cons, List.length_cons, Nat.mul_add, Nat.mul_one]
    omega
theorem StgK.bytes {ds : List (List Int)} {t : Nat} {ps : List PartD} (h : StgK ds t ds.length ps) (ht : t < ds.length) (h8 : ds.length ≤ 8) (hd : ∀ d ∈ ds, d.length ≤ 1000) (rt : ByteArray) : bytesP 0 [] rt ps ≤ 100000 := by
  have hl := h.len
  unfold bytesP
  rw [show ((0 : Nat) : Int) = 0 from rfl, list_none]
  have : diffP ps ≤ ((1000 * ps.length : Nat) : Int) := isum_le _ 1000 ps (fun p hp => by
    have h1 : p.chg ∈ allC ps := List.mem_map.2 ⟨p, hp, rfl⟩
    have h2 : p.cdata.length ≤ 1000 := (h.small ht hd _ h1).2
    omega)
  simp only [sumL, List.map_nil, List.sum_nil]
  omega
theorem StgK.read {ds : List (List Int)} {t : Nat} {ps : List PartD} (h : StgK ds t ds.length ps) (ht : t < ds.length) (h8 : ds.length ≤ 8) {B : Nat} {F1 F' : List FileS} (hp : Puts (0 + 1) B [] (allC ps) F1) (hf : Forgot ((0 + 1 : Nat) : Int) [] F1 F') {i : Nat} (hi : i < ds.length) : readV (0 + 1) F' [] 1 (ptB i) = (ds[i], 0) := by
  have hl := h.len
  have hn : ((allC ps).map (·.1)).Nodup := by rw [h.paths ht]; exact pt_once h8
  have ho := (puts_size hp List.nodup_nil).2
  have hr := (rise_puts hp (rise_none _) hn).1
  have hm : (ptB i, ds[i], false) ∈ allC ps := by
    rw [← (h.all ht i (by omega) hi).2]
    exact List.mem_map.2 ⟨_, List.getElem_mem _, rfl⟩
  have hrd := puts_read hp hn hm (now := 0 + 1) (ver := 1) (by omega) (by omega)
  have hrf := hf.read ho hr (v := 1) (.inr rfl) (ptB i)
  unfold readV
  rw [if_neg (by simp [thereV]), hrf, hrd]
  rfl
end Go.Proofs.YtkplkienbgoofaaGreatDoor

namespace Go.Proofs.YtkplkienbgoofaaGreatDoor
open Go.RowKit Go.Maps Go.WideMaps Go.WideAt
theorem res_cell_tmp {fn : Func} {a t : Tmp} {ty : TypeId} (h : fn.results = #[.cell a ty, .tmp t]) (tmps : Array Value) (P : Program) (w : World) {ad : Addr} {v : Value} (ha : tmps.getD a undef = .pointer (some ad))
    (hl : (loadVar ty ad).run P w = .ok v w) : (results fn tmps).run P w = .ok (.tuple #[v, tmps.getD t undef]) w := by
  have e : (results fn tmps).run P w = (do let u ← loadVar ty ad; pure (Value.tuple #[u, tmps.getD t undef]) : Sem Value).run P w := by
    have ha' : tmps[a]?.getD undef = .pointer (some ad) := by simpa using ha
    simp [results, h, ha', asAddr]
  rw [e, Sem.run_bind, hl]
  rfl
theorem load_sums {W : World} {g : Nat} {a b c : Int} {v : Value} (h : W.heap[g]? = some (Obj.cells #[.int .i64 a, .int .i64 b, .int .i64 c, v] 62 (0, 0))) :
    (loadVar 62 ⟨g, 0, none⟩).run Tryz.prog W = .ok (.agg #[.int .i64 a, .int .i64 b, .int .i64 c, v]) W := by
  refine run_loadVar_mid W g 0 62 [.int .i64 a, .int .i64 b, .int .i64 c, v] _ (fun k u hk => ?_) Tryz.underlying62 (by kernel_rfl) (by kernel_rfl)
  rw [cell_of_row W _ _ _ _ _ h]
  simpa using hk
set_option maxRecDepth 100000 in
set_option maxHeartbeats 4000000 in
theorem count_zero (w : World) : Calls Tryz.prog 107 #[.int .i64 0, .int .i64 8] w fun e w' => e = .returned (.int .i64 0) ∧ w' = w := by
  go_enter Tryz.func107, Tryz.ntmps107
  go_wp2_with fail
  go_ret
  exact ⟨rfl, rfl⟩
set_option maxRecDepth 100000 in
set_option maxHeartbeats 4000000 in
theorem make_none (A : Option Addr) (c : Nat) (w : World) : Calls Tryz.prog 80 #[.slice A 0 c, .int .i64 8, .int .i64 4] w fun e w' => e = .returned (.tuple #[.agg #[.int .i64 8, .int .i64 4, .int .i64 0, .slice none 0 0], .int .i64 0]) ∧ Below w.heap.size w w' := by
  go_enter Tryz.func80, Tryz.ntmps80
  go_wp2_with fail
  refine (count_zero _).mono ?_
  rintro e w1 ⟨rfl, rfl⟩
  go_wp2_with fail
  refine wp_loop_rounds 1 ?_
  rw [rounds_succ]
  go_wp2_with fail
  exact bodyPost_ret (res_cell_tmp rfl _ _ _ rfl (load_sums (block_below (heap_alloc_new w _) (below_one _ _)))) rfl ⟨rfl, below_from (below_one _ _) (below_one _ _)⟩
theorem below_setCells_of (b : Nat) : ∀ (vs : List Value) (o : Nat) (w : World), Below b w (w.setCells b o vs)
  | [], _, w => Below.refl b w
  | v :: r, o, w => ((Below.refl b w).setCell (p := ⟨b, o, none⟩) (Nat.le_refl _) v).trans (below_setCells_of b r (o + 1) _)
theorem load_sums_new (w : World) (a b c : Int) (v : Value) : (loadVar 62 ⟨w.heap.size, 0, none⟩).run Tryz.prog (w.alloc (.cells #[.int .i64 a, .int .i64 b, .int .i64 c, v] 62)) = .ok (.agg #[.int .i64 a, .int .i64 b, .int .i64 c, v]) (w.alloc (.cells #[.int .i64 a, .int .i64 b, .int .i64 c, v] 62)) := load_sums (heap_alloc_new w _)
set_option maxRecDepth 100000 in
set_option maxHeartbeats 4000000 in
theorem sums_any (j s : Nat) (m : ModD) (ps : List PartD) (over : Bool) (pv : Value) (i : Int) (w : World) {base : Nat} (hps : ps.length ≤ 1000) (hold : ∀ p ∈ ps, p.old = []) (hj : PJobAt w base j s m ps over pv) :
    Calls Tryz.prog 48 #[.pointer (some ⟨j, 0, none⟩), .int .i64 i] w fun e w' => (∃ a b c, e = .returned (.tuple #[.agg #[.int .i64 a, .int .i64 b, .int .i64 c, .slice none 0 0], .int .i64 (if i < 0 ∨ (ps.length : Int) ≤ i then 1 else 0)])) ∧ Below w.heap.size w w' := by
  obtain ⟨y0, _, _, y7, y8⟩ := hj.cells
  obtain ⟨A, c, rfl, hc⟩ := hj.slice
  have hb0 := below_one w (.cells #[.int .i64 0, .int .i64 0, .int .i64 0, .slice none 0 0] 62)
  have y7' := cell_below hb0 y7
  have HB0 := Lib.hid hb0
  have HL := Lib.hid (load_sums_new w 0 0 0 (.slice none 0 0))
  clear hb0
  by_cases h0 : i < 0
  · have d0 : decide (i < 0) = true := decide_eq_true h0
    have HI : Hid ((if i < 0 ∨ (ps.length : Int) ≤ i then (1 : Int) else 0) = 1) := Lib.hid (if_pos (.inl h0))
    clear hj y7
    go_enter Tryz.func48, Tryz.ntmps48
    go_wp2_with fail
    refine bodyPost_ret (res_cell_tmp rfl _ _ _ rfl HL.out) rfl ⟨⟨0, 0, 0, by first | rfl | (rw [HI.out]; rfl)⟩, HB0.out⟩
  · have d0 : decide (i < 0) = false := decide_eq_false h0
    by_cases h1 : (ps.length : Int) ≤ i
    · have d1 : decide ((ps.length : Int) ≤ i) = true := decide_eq_true h1
      have HI : Hid ((if i < 0 ∨ (ps.length : Int) ≤ i then (1 : Int) else 0) = 1) := Lib.hid (if_pos (.inr h1))
      clear hj y7
      go_enter Tryz.func48, Tryz.ntmps48
      go_wp2_with fail
      refine bodyPost_ret (res_cell_tmp rfl _ _ _ rfl HL.out) rfl ⟨⟨0, 0, 0, by first | rfl | (rw [HI.out]; rfl)⟩, HB0.out⟩
    · obtain ⟨n, rfl⟩ : ∃ n : Nat, i = (n : Int) := ⟨i.toNat, by omega⟩
      have HI : Hid ((if (n : Int) < 0 ∨ (ps.length : Int) ≤ (n : Int) then (1 : Int) else 0) = 0) := Lib.hid (if_neg (by omega))
      have d1 : decide ((ps.length : Int) ≤ (n : Int)) = false := decide_eq_false h1
      have hn : n < ps.length := by omega
      obtain ⟨g, c', he, hc', hcell⟩ := hj.form (by omega)
      have hA : A = some ⟨g, 0, none⟩ := by injection he
      subst hA
      have z1 : w.cell? ⟨g, n * 7 + 1, none⟩ = some ps[n].oldv := hcell n hn 1 (by omega)
      have ho := (hj.parts ps[n] (List.getElem_mem hn)).old.1
      obtain ⟨Ao, co, hv, _⟩ := own_bytes ho
      rw [hv, hold ps[n] (List.getElem_mem hn)] at z1
      replace z1 : w.cell? ⟨g, n * 7 + 1, none⟩ = some (.slice Ao 0 co) := z1
      have z1' := cell_below HB0.out z1
      have i0 : (0 : Int) ≤ (n : Int) := by omega
      have i1 : (n : Int) < (ps.length : Int) := by omega
      have hcb := heap_alloc_new w (.cells #[.int .i64 0, .int .i64 0, .int .i64 0, .slice none 0 0] 62)
      have HCB := Lib.hid hcb
      clear hj hcell he hv ho z1 y7 hcb
      go_enter Tryz.func48, Tryz.ntmps48
      go_wp2_with fail
      refine (make_none Ao co _).mono ?_
      rintro e w1 ⟨rfl, hb1⟩
      have HB1 := Lib.hid (below_from HB0.out hb1)
      have HC1 := Lib.hid (block_below HCB.out hb1)
      have hbx := below_one w1 (.cells #[.int .i64 8, .int .i64 4, .int .i64 0, .slice none 0 0] 62)
      have hnb := block_below HC1.out hbx
      have HNB := Lib.hid hnb
      have HBX := Lib.hid (below_from HB1.out hbx)
      have u0 := cell_of_row _ _ 0 _ _ _ hnb
      have u1 := cell_of_row _ _ 1 _ _ _ hnb
      have u2 := cell_of_row _ _ 2 _ _ _ hnb
      have u3 := cell_of_row _ _ 3 _ _ _ hnb
      have f0 := frozen_of_row _ _ 0 _ _ hnb
      have f1 := frozen_of_row _ _ 1 _ _ hnb
      have f2 := frozen_of_row _ _ 2 _ _ hnb
      have f3 := frozen_of_row _ _ 3 _ _ hnb
      obtain ⟨cur, hn4, hcz, hcl⟩ := YtkplkienbgoofaaGreatDoorW.PrintWords.setCells_row [.int .i64 8, .int .i64 4, .int .i64 0, .slice none 0 0] 0 _ _ hnb (by decide)
      have hcur : cur = #[.int .i64 8, .int .i64 4, .int .i64 0, .slice none 0 0] := by
        apply Array.ext'
        rw [hcl]; rfl
      subst hcur
      have HN4 := Lib.hid (load_sums hn4)
      have HB4 := Lib.hid (HBX.out.trans ((below_setCells_of w.heap.size [.int .i64 8, .int .i64 4, .int .i64 0, .slice none 0 0] 0 _)))
      clear hb1 hbx hnb hn4 hcz hcl
      go_wp2_with fail
      exact bodyPost_ret (res_cell_tmp rfl _ _ _ rfl HN4.out) rfl ⟨⟨8, 4, 0, by first | rfl | (rw [HI.out]; rfl)⟩, HB4.out⟩
end Go.Proofs.YtkplkienbgoofaaGreatDoor

namespace Go.Proofs.YtkplkienbgoofaaGreatDoor
open Go.RowKit Go.Maps Go.WideMaps Go.WideAt
open Go.Proofs.YtkplkienbgoofaaGreatDoorW.PrintWords (Kd ReadsRow)
def kDat : Kd (List Int) := Kd.slice 5 (Kd.int .u8)
def DatRow (w : World) (A : Option Addr) (l : List (List Int)) : Prop := ∀ k (h : k < l.length), ∃ b off A' c', A = some ⟨b, off, none⟩ ∧ w.cell? ⟨b, off + k, none⟩ = some (.slice A' l[k].length c') ∧ l[k].length ≤ c' ∧ ByteRow w A' l[k] ∧ (A' = none → l[k].length = 0)
theorem DatRow.below {w w' : World} {A : Option Addr} {l : List (List Int)} (h : DatRow w A l) (hb : Below w.heap.size w w') : DatRow w' A l := fun k hk => by
  obtain ⟨b, off, A', c', h0, h1, h2, h3, h4⟩ := h k hk
  exact ⟨b, off, A', c', h0, cell_below hb h1, h2, h3.below hb, h4⟩
theorem datRow_of {w : World} {A : Option Addr} {l : List (List Int)} (h : Kd.C kDat w A l.length l) : DatRow w A l := by
  have hall : ∀ k (hk : k < l.length), ∃ ad A' c', A = some ad ∧ l[k].length ≤ c' ∧ Kd.C (Kd.int .u8) w A' l[k].length l[k] ∧ w.cell? (ad.add k) = some (.slice A' l[k].length c') := by
    intro k hk
    obtain ⟨ad, e, hc⟩ := h.2.2 (by omega)
    obtain ⟨c, _, ⟨A', c', rfl, hle, hr⟩, hcell⟩ := hc k _ (List.getElem?_eq_getElem hk)
    have h1 := hcell 0 _ rfl
    exact ⟨ad, A', c', e, hle, hr, by simpa [kDat, Kd.slice] using h1⟩
  intro k hk
  obtain ⟨ad0, _, _, e0, _, _, hcell0⟩ := hall 0 (by omega)
  obtain ⟨ad, A', c', e, hle, hr, hcell⟩ := hall k hk
  obtain ⟨b, off, spot⟩ := ad
  have hs : spot = none := by
    have e1 : ad0 = ⟨b, off, spot⟩ := Option.some.inj (e0.symm.trans e)
    rw [e1] at hcell0
    have := World.cell?_spot hcell0
    simpa [Addr.add] using this
  subst hs
  rw [Addr.add_lit] at hcell
  obtain ⟨h1, h2⟩ := byteRow_of hr
  exact ⟨b, off, A', c', e, hcell, hle, h1, h2⟩
theorem conv_u8 (x : Int) (W : World) : (convert 59 9 (.slice (some ⟨W.heap.size, 0, none⟩) 1 1)).run Tryz.prog (W.alloc (.cells #[.int .u8 x] 5)) = .ok (.string (strOfNums [x])) (W.alloc (.cells #[.int .u8 x] 5)) :=
  run_convert_bytes_arg _ 59 5 Tryz.underlying59 Tryz.underlying5 W.heap.size 0 1 1 [x] rfl (fun i hi => by
    obtain rfl : i = 0 := by omega
    simp) 9 Tryz.underlying9
theorem nm_of (k : Nat) : strOfNums [(97 : Int) + (k : Int)] = nmB k := by
  have : ((97 : Int) + (k : Int)).toNat = 97 + k := by omega
  simp [strOfNums, nmB, this]
theorem pt_of (k : Nat) : (⟨#[114, 47]⟩ : ByteArray) ++ nmB k = ptB k := by
  rw [← nm_join, joinB_root (show (⟨#[114]⟩ : ByteArray).toList.isEmpty = false by rw [ByteArray.toList_eq]; rfl)]
  rfl
theorem rot_mod {n t k : Nat} (ht : t < n) (hk : k < n) : ((k : Int) + (t : Int)) % (n : Int) = ((rotN n t k : Nat) : Int) := by
  unfold rotN
  split
  · rw [Int.emod_eq_of_lt (by omega) (by omega)]; omega
  · rw [← Int.sub_emod_right, Int.emod_eq_of_lt (by omega) (by omega)]; omega
set_option maxRecDepth 100000 in
set_option maxHeartbeats 8000000 in
theorem pushOrder_walk (v : Value) (ds : List (List Int)) (turn ask : Int) (w : World) (hv : SliceArg kDat w v ds) (hg0 : ∀ o ∈ ds, ∀ x ∈ o, (Lit.int .u8 x).wf = true) (hturn : (Lit.int .i64 turn).wf = true) (hask : (Lit.int .i64 ask).wf = true) (hg : Env w) :
    Calls Tryz.prog 8 #[v, .int .i64 turn, .int .i64 ask] w fun e w' => e = .returned (.bool true) ∧ Below w.heap.size w w' := by
  obtain ⟨A, c, rfl, hlc, hcm, hC⟩ := hv
  have hmx : (maxLen : Nat) = 9223372036854775807 := rfl
  have HK := Lib.hid (sends_any w hg)
  have HG := Lib.hid hg
  have HD := Lib.hid (datRow_of hC)
  have HWF := Lib.hid hg0
  obtain ⟨j0, hj0, hjz0, hjz1, hjz2⟩ := info_parts infoTxt
  clear hC hg0 hg
  go_enter Tryz.func8, Tryz.ntmps8
  go_wp2_with fail
  refine HK.out.mono ?_
  rintro e w1 ⟨rfl, hb1⟩
  have HB1 := Lib.hid hb1
  clear hb1
  by_cases h1 : ds.length < 1
  · have d1 : decide ((ds.length : Int) < 1) = true := by rw [decide_eq_true_eq]; omega
    go_wp2_with fail
    go_ret
    exact ⟨rfl, HB1.out⟩
  · have d1 : decide ((ds.length : Int) < 1) = false := by rw [decide_eq_false_iff_not]; omega
    by_cases h8 : 8 < ds.length
    · have d2 : decide ((8 : Int) < (ds.length : Int)) = true := by rw [decide_eq_true_eq]; omega
      go_wp2_with fail
      go_ret
      exact ⟨rfl, HB1.out⟩
    · have d2 : decide ((8 : Int) < (ds.length : Int)) = false := by rw [decide_eq_false_iff_not]; omega
      go_wp2_with fail
      go_loopw [7, 35] (fun ov i wr => ∃ k : Nat, k ≤ ds.length ∧ i = .int .i64 k ∧ wr.ownsRow w1.heap.size 9 1 ov k (strs ((List.range k).map nmB)) ∧ (∀ j (hj : j < ds.length), j < k → ds[j].length ≤ 1000) ∧ w1.heap.size ≤ wr.heap.size ∧ Below w.heap.size w wr) (fun _ i _ => ds.length - (intOf i).toNat)
      case atStart => exact ⟨0, by omega, rfl, ⟨rfl, .inl ⟨rfl, rfl⟩⟩, (fun j hj h => by omega), Nat.le_refl _, HB1.out⟩
      case round =>
        obtain ⟨k, hk, rfl, how, hsm, hsz, hb⟩ := hrel
        obtain ⟨wk, rfl⟩ : ∃ W, W = wr := ⟨wr, rfl⟩
        have HOW := Lib.hid how
        have HSM := Lib.hid hsm
        have HB := Lib.hid hb
        clear how hsm hb
        by_cases hlt : k < ds.length
        · obtain ⟨bd, od, Ad, cd, rfl, x1, x2, _, _⟩ := (HD.out.below HB.out) k hlt
          by_cases hth : ds[k].length ≤ 1000
          · have d3 : decide ((1000 : Int) < (ds[k].length : Int)) = false := by rw [decide_eq_false_iff_not]; omega
            have hsn : ∀ j (hj : j < ds.length), j < k + 1 → ds[j].length ≤ 1000 := fun j hj h => by
              by_cases e : j = k
              · subst e; exact hth
              · exact HSM.out j hj (by omega)
            have HSN := Lib.hid hsn
            have v1 := conv_u8 ((97 : Int) + (k : Int)) wk
            rw [nm_of] at v1
            have hb1 := below_one wk (.cells #[.int .u8 ((97 : Int) + (k : Int))] 5)
            have hb2 := below_one (wk.alloc (.cells #[.int .u8 ((97 : Int) + (k : Int))] 5)) (.cells #[.string (nmB k)] 9)
            have hb3 := below_from hb1 hb2
            have HOWA := Lib.hid (own_stay HOW.out hb3)
            have hsk : wk.heap.size + 2 = ((wk.alloc (.cells #[.int .u8 ((97 : Int) + (k : Int))] 5)).alloc (.cells #[.string (nmB k)] 9)).heap.size := by simp
            have htk : strs ((List.range (k + 1)).map nmB) = strs ((List.range k).map nmB) ++ [.string (nmB k)] := by
              rw [List.range_succ, List.map_append, List.map_cons, List.map_nil, strs_app1]
            have HTK := Lib.hid htk
            have HB3 := Lib.hid (below_from HB.out hb3)
            have hxl : (strs ((List.range k).map nmB)).length = k := by simp [strs]
            clear hsn hb1 hb2 hb3 htk
            go_wp2_with (at_builtin; go_loud (refine wpList_append_own _ rfl (.tmp 43) (.tmp 49) 49 rfl w1.heap.size 9 j0 (.string ⟨#[]⟩) 1 16 Tryz.underlying49 hj0 hjz0 hjz1 hjz2 rfl (by decide) u7 k (strs ((List.range k).map nmB)) (by simp [Act.eval, Act.put]) HOWA.out ⟨wk.heap.size + 1, 0, none⟩ 1 1 [.string (nmB k)] (by simp [Act.eval, Act.put]) rfl (fun j u hu => by (simpa using cell_one_new (wk.alloc (.cells #[.int .u8 ((97 : Int) + (k : Int))] 5)) (.string (nmB k)) 9 j u hu)) (fun u hu => by (simp at hu; subst hu; rfl)) (by unfold maxLen; omega) (by omega) (by simp; omega) ?_); intro v5 w5 hown5 hg5 _)
            have hw01 := HB1.out.size
            have HB6 := Lib.hid (HB3.out.grown hg5 (by simp; omega) (fun j hj => by have := (HOWA.out.lt j hj).1; have := HB1.out.size; omega))
            have hfin : w5.ownsRow w1.heap.size 9 1 v5 (k + 1) (strs ((List.range (k + 1)).map nmB)) := by
              rw [HTK.out]
              exact hown5
            have HFIN := Lib.hid hfin
            have hsz5 : w1.heap.size ≤ w5.heap.size := Nat.le_trans hsz (Nat.le_trans (by simp; omega) hg5.size)
            clear hown5 hfin hg5
            go_roundw
            case rel => exact ⟨k + 1, by omega, by go_num, HFIN.out, HSN.out, hsz5, HB6.out⟩
            case measure => simp [intOf]; omega
          · have d3 : decide ((1000 : Int) < (ds[k].length : Int)) = true := by rw [decide_eq_true_eq]; omega
            go_wp2_with fail
            go_ret
            exact ⟨rfl, HB.out⟩
        · obtain rfl : k = ds.length := by omega
          obtain ⟨n, hn⟩ : ∃ n, n = ds.length := ⟨_, rfl⟩
          have hrow : wk.ownsRow w1.heap.size 9 1 u7 ((List.range ds.length).map nmB).length (strs ((List.range ds.length).map nmB)) := by
            rw [List.length_map, List.length_range]; exact HOW.out
          obtain ⟨A7, c7, hv7, hc7, ht7⟩ := own_row hrow
          rw [List.length_map, List.length_range] at hv7
          subst hv7
          have HT7 := Lib.hid ht7
          have hd1 : ∀ d ∈ ds, d.length ≤ 1000 := fun d hd => by
            obtain ⟨i, hi, rfl⟩ := List.getElem_of_mem hd
            exact HSM.out i hi hi
          have HD1 := Lib.hid hd1
          have hwk : w.heap.size ≤ wk.heap.size := HB.out.size
          clear hrow ht7 hd1 hc7
          go_wp2_with fail
          refine (new_store wk).mono ?_
          rintro e w3 ⟨s, g, b, pm, rfl, hs3, hb3⟩
          have HS3 := Lib.hid hs3
          have HB3 := Lib.hid hb3
          clear hs3 hb3
          go_wp2_with fail
          refine (module_any 100000 w3).mono ?_
          rintro e w4 ⟨rfl, hb4⟩
          have HS4 := Lib.hid (HS3.out.below hb4)
          have HB4 := Lib.hid (below_from HB3.out hb4)
          have hsz4 : wk.heap.size ≤ w4.heap.size := HB4.out.size
          clear hb4
          go_wp2_with fail
          have hnl : ((List.range ds.length).map nmB).length = ds.length := by simp
          have hpn := push_new s g b pm 0 [] [] (modP 100000) A7 c7 ((List.range ds.length).map nmB) w4 (base := wk.heap.size) (by omega) (HT7.out.below HB4.out) (fun x hx => by
            obtain ⟨i, _, rfl⟩ := List.mem_map.1 hx
            show 1 ≤ 1000
            omega) (by decide) (by simp [mapN]) (by omega) (fun p => readV_ok HS4.out 0 p) HS4.out ((HG.out.below HB.out).below HB4.out).ml
          rw [hnl] at hpn
          refine hpn.mono ?_
          clear hpn
          rintro e w5 ⟨hb5, ⟨hne, _⟩ | ⟨_, j, pv, ps, rfl, hj5, hbeg⟩⟩
          · exact absurd (newE_names 100000 (by omega) (by omega)) hne
          rw [show (modP 100000).rt = ⟨#[114]⟩ from rfl, nm_paths] at hbeg
          have HJ5 := Lib.hid (hj5.mono hsz4)
          have HS5 := Lib.hid (HS4.out.below hb5)
          have HB5 := Lib.hid (below_from HB4.out hb5)
          have HBG := Lib.hid hbeg
          have hsz5 : wk.heap.size ≤ w5.heap.size := HB5.out.size
          clear hj5 hb5 hbeg
          have hcase : ∃ t : Nat, t < ds.length ∧ ((decide (turn < 0) = true ∧ (t : Int) = 0) ∨ (decide (turn < 0) = false ∧ decide ((ds.length : Int) ≤ turn) = true ∧ (t : Int) = 0) ∨ (decide (turn < 0) = false ∧ decide ((ds.length : Int) ≤ turn) = false ∧ 0 ≤ turn ∧ turn < (ds.length : Int) ∧ (t : Int) = turn)) := by
            by_cases h0 : turn < 0
            · exact ⟨0, by omega, .inl ⟨decide_eq_true h0, rfl⟩⟩
            · by_cases h9 : (ds.length : Int) ≤ turn
              · exact ⟨0, by omega, .inr (.inl ⟨decide_eq_false h0, decide_eq_true h9, rfl⟩)⟩
              · exact ⟨turn.toNat, by omega, .inr (.inr ⟨decide_eq_false h0, decide_eq_false h9, by omega, by omega, by omega⟩)⟩
          obtain ⟨t', htl, hcase⟩ := hcase
          have HSK := Lib.hid (StgK.begun t' HBG.out)
          rcases hcase with ⟨e0, ht'⟩ | ⟨e0, e1, ht'⟩ | ⟨e0, e1, e2, e3, ht'⟩
          all_goals
            have HTT := Lib.hid ht'
            clear ht'
            go_wp2_with fail
            go_loopw [76] (fun i wr => ∃ (k : Nat) (qs : List PartD), k ≤ ds.length ∧ i = .int .i64 k ∧ PJobAt wr wk.heap.size j s (modP 100000) qs false pv ∧ StgK ds t' k qs ∧ StoreAt wr wk.heap.size s g b pm 0 [] [] ∧ wk.heap.size ≤ wr.heap.size ∧ Below wk.heap.size wk wr) (fun i _ => ds.length - (intOf i).toNat)
            case atStart => exact ⟨0, ps, by omega, rfl, HJ5.out, HSK.out, HS5.out, hsz5, HB5.out⟩
            case round =>
              obtain ⟨k, qs, hk2, rfl, hj, hsk, hs, hsz, hb⟩ := hrel
              obtain ⟨wr, rfl⟩ : ∃ W, W = wr := ⟨wr, rfl⟩
              have hql : qs.length = ds.length := hsk.len
              have HJ := Lib.hid hj
              have HSKk := Lib.hid hsk
              have HS := Lib.hid hs
              have HBk := Lib.hid hb
              have HB0 := Lib.hid (below_from HB.out hb)
              clear hj hsk hs hb
              by_cases hlt : k < ds.length
              · obtain ⟨q, hq⟩ : ∃ q, q = rotN ds.length t' k := ⟨_, rfl⟩
                have hrot : ((k : Int) + (t' : Int)) % (ds.length : Int) = (q : Int) := by rw [hq]; exact rot_mod htl hlt
                have hrot2 := hrot
                rw [HTT.out] at hrot2
                try simp only [Int.add_zero] at hrot2
                have hql2 : q < ds.length := by rw [hq, rotN]; split <;> omega
                obtain ⟨bd, od, Ad, cd, rfl, x1, x2, x3, x4⟩ := (HD.out.below HB0.out) q hql2
                have hmay := HSKk.out.may htl hlt hq
                have hnx := fun (hp : q < qs.length) (v : Value) => HSKk.out.next htl hlt hq hp v (List.getElem?_eq_getElem hql2)
                have hdl := HD1.out ds[q] (List.getElem_mem hql2)
                have hwf := HWF.out ds[q] (List.getElem_mem hql2)
                generalize ds[q] = dq at x1 x2 x3 x4 hnx hdl hwf
                have HROW := Lib.hid x3
                have HNN := Lib.hid x4
                have HNX := Lib.hid hnx
                have HMAY := Lib.hid hmay
                have HWQ := Lib.hid hwf
                clear x3 x4 hnx hmay hwf hq
                go_wp2_with fail
                refine (full_any j s (modP 100000) qs false pv (q : Int) Ad cd dq wr (base := wk.heap.size) hsz (by omega) HROW.out HNN.out HWQ.out (by omega) HJ.out).mono ?_
                rintro e wb (⟨hne, _⟩ | ⟨_, h9, _⟩ | ⟨_, _, n2, hn2, dv, hn3, rfl, hjb, hfb⟩)
                · exact absurd HMAY.out hne
                · omega
                obtain rfl : n2 = q := by omega
                have HJb := Lib.hid hjb
                have HSb := Lib.hid (HJ.out.store hfb HS.out)
                have HBb := Lib.hid (HBk.out.trans (hfb.below HBk.out.size (fun x hx => HJ.out.from_ x hx)))
                have HSKb := Lib.hid (HNX.out hn2 dv)
                have hszb : wk.heap.size ≤ wb.heap.size := Nat.le_trans hsz hfb.size
                clear hjb hfb hn3
                go_wp2_with fail
                go_roundw
                case rel => exact ⟨k + 1, _, by omega, by go_num, HJb.out, HSKb.out, HSb.out, hszb, HBb.out⟩
                case measure => simp [intOf]; omega
              · obtain rfl : k = ds.length := by omega
                go_wp2_with fail
                refine (pcommit_any j s g b pm 0 [] [] (modP 100000) qs false pv wr (base := wk.heap.size) (Nat.le_refl _) (by omega) (fun p hp => by
                  have h1 : p.chg ∈ allC qs := List.mem_map.2 ⟨p, hp, rfl⟩
                  have h2 : p.cpath ∈ (allC qs).map (·.1) := List.mem_map.2 ⟨_, h1, rfl⟩
                  rw [HSKk.out.paths htl] at h2
                  obtain ⟨i, _, e⟩ := List.mem_map.1 h2
                  rw [← e]
                  show 3 ≤ _
                  omega) (by decide) (by simp) (by simp [mapN]) (by omega) (rise_none _) hsz HJ.out HS.out ((HG.out.below HB.out).below HBk.out)).mono ?_
                rintro e w8 (⟨h, _⟩ | ⟨_, _, h, _⟩ | ⟨_, _, _, h, _⟩ | ⟨_, _, _, _, B, F1, F', w7, rfl, hpu, hfo, hmf, hs8, hj8, _, _, hb8⟩)
                · rcases h with h | h
                  · cases h
                  · rw [HSKk.out.left htl] at h
                    omega
                · have := HSKk.out.bytes htl (by omega) HD1.out (modP 100000).rt
                  exact absurd h (by show ¬ (100000 : Int) < _; omega)
                · exact absurd (chk_names (n := ds.length) (by omega) (HSKk.out.paths htl) (HSKk.out.small htl HD1.out)) h
                have hrd := fun (i : Nat) (hi : i < ds.length) => HSKk.out.read htl (by omega) hpu hfo hi
                have hold := fun (p : PartD) (hp : p ∈ qs) => (show p.old = [] by
                  obtain ⟨i, hi, rfl⟩ := List.getElem_of_mem hp
                  exact (HSKk.out.part i hi).1)
                have HRD := Lib.hid hrd
                have HOLD := Lib.hid hold
                have HS8 := Lib.hid hs8
                have HJ8 := Lib.hid hj8
                have HB8 := Lib.hid (HBk.out.trans hb8)
                have hmf2 : mapN F' ≤ 8 := by
                  have : mapN ([] : List FileS) = 0 := rfl
                  omega
                rw [show (((0 : Nat) : Int) + 1) = 1 from rfl]
                clear hpu hfo hmf hs8 hj8 hb8 hrd hold
                go_wp2_with fail
                go_loopw [107] (fun i wr => ∃ k : Nat, k ≤ ds.length ∧ i = .int .i64 k ∧ PJobAt wr wk.heap.size j s (modP 100000) qs true pv ∧ StoreAt wr wk.heap.size s g b pm (0 + 1) F' [] ∧ Below wk.heap.size wk wr) (fun i _ => ds.length - (intOf i).toNat)
                case atStart => exact ⟨0, by omega, rfl, HJ8.out, HS8.out, HB8.out⟩
                case round =>
                  obtain ⟨k, hk9, rfl, hj, hs, hb⟩ := hrel
                  obtain ⟨wr, rfl⟩ : ∃ W, W = wr := ⟨wr, rfl⟩
                  have HJ := Lib.hid hj
                  have HS := Lib.hid hs
                  have HBk := Lib.hid hb
                  have HB0 := Lib.hid (below_from HB.out hb)
                  clear hj hs hb
                  by_cases hlt : k < ds.length
                  · obtain ⟨ad1, rfl, hT1⟩ := (HT7.out.below HBk.out) (by omega)
                    have y1 := hT1 k (by omega)
                    rw [List.getElem_map, List.getElem_range] at y1
                    obtain ⟨bd, od, Ad, cd, rfl, x1, x2, x3, x4⟩ := (HD.out.below HB0.out) k hlt
                    have hrdk := HRD.out k hlt
                    have hpe := pt_of k
                    have hnz : (nmB k).size = 1 := rfl
                    obtain ⟨p, hp⟩ : ∃ p, p = nmB k := ⟨_, rfl⟩
                    obtain ⟨pp, hpp⟩ : ∃ pp, pp = ptB k := ⟨_, rfl⟩
                    have hppz : pp.size = 3 := by rw [hpp]; rfl
                    rw [← hp] at y1 hpe hnz
                    rw [← hpp] at hpe hrdk
                    generalize ds[k] = dk at x1 x2 x3 x4 hrdk
                    have HROW := Lib.hid x3
                    have HNN := Lib.hid x4
                    have HRK := Lib.hid hrdk
                    clear x3 x4 hrdk hT1 hp hpp
                    go_wp2_with fail
                    refine (sread_any s g b pm (0 + 1) F' [] 1 pp dk 0 wr (base := wk.heap.size) (by decide) (by omega) (by omega) HS.out HRK.out).mono ?_
                    rintro e w9 ⟨A9, c9, rfl, hcv, _, hb9⟩
                    have cv1 : ∀ n, (convert 59 9 (.slice A9 dk.length c9)).run Tryz.prog (w9.drewN n) = .ok (.string (strOfNums dk)) (w9.drewN n) := fun n => hcv _ (below_drewN (Below.refl _ _) n)
                    have cv2 : ∀ n, (convert 59 9 (.slice Ad dk.length cd)).run Tryz.prog (w9.drewN n) = .ok (.string (strOfNums dk)) (w9.drewN n) := fun n => conv_row cd ((HROW.out.below hb9).below (below_drewN (Below.refl _ _) n)) HNN.out
                    have HJ9 := Lib.hid (HJ.out.below hb9)
                    have HS9 := Lib.hid (HS.out.below hb9)
                    have HB9 := Lib.hid (below_from HBk.out hb9)
                    have z1 := cell_below hb9 x1
                    clear hcv hb9
                    generalize strOfNums dk = dd at *
                    go_wp2_with fail
                    go_quiet (fail)
                    go_wp2_with fail
                    go_roundw
                    case rel => exact ⟨k + 1, by omega, by go_num, HJ9.out.below (below_drewN (Below.refl _ _) _), HS9.out.below (below_drewN (Below.refl _ _) _), below_from HB9.out (below_drewN (Below.refl _ _) _)⟩
                    case measure => simp [intOf]; omega
                  · obtain rfl : k = ds.length := by omega
                    go_wp2_with fail
                    refine (sums_any j s (modP 100000) qs true pv ask wr (by omega) HOLD.out HJ.out).mono ?_
                    rintro e w9 ⟨⟨a, b', c', rfl⟩, hb9⟩
                    rw [hql]
                    have HB9 := Lib.hid (below_from (below_from HB0.out hb9) (below_one w9 (.cells #[.int .i64 a, .int .i64 b', .int .i64 c', .slice none 0 0] 62)))
                    clear hb9
                    by_cases h0 : ask < 0
                    · have f0 : decide ((0 : Int) ≤ ask) = false := by rw [decide_eq_false_iff_not]; omega
                      rw [if_pos (.inl h0)]
                      go_wp2_with fail
                      go_ret
                      exact ⟨rfl, HB9.out⟩
                    · have f0 : decide ((0 : Int) ≤ ask) = true := by rw [decide_eq_true_eq]; omega
                      by_cases h9 : (ds.length : Int) ≤ ask
                      · have f1 : decide (ask < (ds.length : Int)) = false := by rw [decide_eq_false_iff_not]; omega
                        rw [if_pos (.inr h9)]
                        go_wp2_with fail
                        go_ret
                        exact ⟨rfl, HB9.out⟩
                      · have f1 : decide (ask < (ds.length : Int)) = true := by rw [decide_eq_true_eq]; omega
                        rw [if_neg (by omega)]
                        go_wp2_with fail
                        go_ret
                        exact ⟨rfl, HB9.out⟩
end Go.Proofs.YtkplkienbgoofaaGreatDoor

namespace Go.Proofs.YtkplkienbgoofaaGreatDoor
open Go.ChangeShapes Go.WideShapes Go.ChangeAt Go.RowKit
open Go.ChangeMaps (open_string shut_string)
open Go.Proofs.YtkplkienbgoofaaGreatDoorW.PrintWords (Kd ReadsRow)
set_option maxRecDepth 100000 in
theorem pushOrder_lifted (os : Os) (started : os.Started) (H : Type) (enc : TypeId × Value → H) :
    ReturnsInHanded {} Tryz.checked os 8 .any (fun w args => (Rows.pushOrderSpec.pre enc Tryz.prog Tryz.f8 Rows.pushOrderRow.domain false w args ∧ laidMetH Tryz.prog laid3 w) ∧ sizedMet enc Tryz.prog Tryz.f8 (OpenSpec.ofChange Rows.pushOrderSpec) false w args) (Rows.pushOrderSpec.post enc Tryz.prog Tryz.f8 false true false false) := by
  refine returns_and_shaped (C := Tryz.checked) (X := fun w _ => laidMetH Tryz.prog laid3 w) (fun _ _ _ hh h => h.of_heap hh) own started (by kernel_rfl) Tryz.func8
    (ChangeSpec.witness_shaped (enc := enc) (C := Tryz.checked) (os := os) (X := fun w _ => laidMetH Tryz.prog laid3 w) false (wit os) #[.slice none 0 0, .int .i64 0, .int .i64 0] 8 (wit_os os) (wit_shaped os _) (by kernel_rfl) (by kernel_rfl) (by kernel_rfl) (wit_met os _)) ?_
  intro W base args ds gs before hval0 hW hcnd hsz0 hL hsh _
  have hsz : (DataW.weightsEach Tryz.prog (Tryz.f8.params.toList ++ Rows.pushOrderSpec.plain.varTypes Tryz.prog) (ds ++ gs)).all (· ≤ reachBytes) = true := hsz0
  have hval : ∀ (j : Nat) t v, Tryz.f8.params[j]? = some t → args[j]? = some v → Value.okWide Tryz.prog W .any base t v := hval0
  have hW' := hW
  obtain ⟨p, q, hA0, hV, rfl, hfz, hnd⟩ := hW
  have hA : DataW.TrodAll enc Tryz.prog W 0 (fun _ => true) true Tryz.f8.params.toList args.toList ds p := hA0
  rw [Tryz.params8] at hA hval hsz
  obtain ⟨v0, vs0, d0, ds0, p0, q0, hargs, rfl, rfl, h0, r0⟩ := trodAll_cons hA
  obtain ⟨v1, vs1, d1, ds1, p1, q1, rfl, rfl, rfl, h1, r1⟩ := trodAll_cons r0
  obtain ⟨v2, vs2, d2, ds2, p2, q2, rfl, rfl, rfl, h2, r2⟩ := trodAll_cons r1
  obtain ⟨rfl, rfl, rfl⟩ := trodAll_nil r2
  obtain rfl : args = #[v0, v1, v2] := by cases args; simp_all
  obtain ⟨rfl, rfl⟩ := trodVars_none hV
  obtain ⟨a0, len0, cap0, rfl⟩ := okWide_slice Tryz.underlying115 (hval 0 115 v0 rfl rfl)
  have k0 := h0
  have lt0 : ∀ x ∈ p0, x.block < W.heap.size := by obtain ⟨m, hm⟩ := k0; exact DataW.trod_lt m _ _ _ hm
  obtain ⟨l0, w0, g0⟩ := arg_slice (d := (Kd.slice 5 (Kd.int .u8))) Tryz.underlying115 (by kernel_rfl) (opens_slice Tryz.underlying59 (by kernel_rfl) (opens_int Tryz.underlying5)) h0
  obtain ⟨a1, rfl, rfl, rfl, w1⟩ := open_int Tryz.underlying3 (hval 1 3 v1 rfl rfl) h1
  obtain ⟨a2, rfl, rfl, rfl, w2⟩ := open_int Tryz.underlying3 (hval 2 3 v2 rfl rfl) h2
  clear hA0 hval0 hsz0 hsz
  refine (pushOrder_walk _ l0 a1 a2 W w0 g0 w1 w2 ⟨et_of_laid hL, envM_of_shaped hsh⟩).mono fun e W' ⟨he, bel⟩ => ?_
  subst he
  exact ⟨_, rfl, _, _, _, [], _, [], hW', trodAll_mk1 (shut_bool Tryz.underlying4 _), (trodAll_cons_mk (Below.trod laidOut (by kernel_rfl) (of_decide_eq_true (by kernel_rfl)) k0 bel lt0) (trodAll_cons_mk (shut_int Tryz.underlying3 w1) (trodAll_cons_mk (shut_int Tryz.underlying3 w2) trodAll_mk0))), rfl, bel.frame _, fun h => by cases h⟩
theorem pushOrder_holds : Rows.PushOrderSaid :=
  OpenClaim.holds_of_wide 8 Tryz.f8 rfl rfl rfl rfl rfl rfl rfl ⟨rfl, rfl, rfl, rfl, rfl⟩ rfl rfl rfl rfl rfl (by kernel_rfl) Tryz.func8 (by kernel_rfl)
    (of_decide_eq_true (by kernel_rfl)) (by unfold Func.isWrapper; first | (rw [if_pos (by decide +kernel)]; kernel_rfl) | (rw [if_neg (by decide +kernel)]; exact ⟨rfl, rfl⟩))
    (fun os started H enc _ => pushOrder_lifted os started H enc)
theorem pushOrder_card : Rows.PushOrderCardSaid :=
  Claim7.holds_tied_plain_at .later [] [.data, .handle, .pinned] true (true, "f0e1cdd676cfa843de0201abc3b42fd006f9e7e391967dac6a390d833e3e481a") true
    pushOrder_holds (fun _ h => by cases h) (by kernel_rfl) (fun _ h => by cases h) pushOrder_row_tie rfl ⟨rfl, rfl⟩ (by kernel_rfl) rfl
    (fun f fn hf hfn => by
      obtain rfl : f = 8 := Option.some.inj ((show Tryz.prog.funcNamed "wharfinger/wharfingerlaw17.PushOrder" = some 8 by kernel_rfl).symm.trans hf) |>.symm
      obtain rfl : fn = Tryz.f8 := (Option.some.inj (Tryz.func8.symm.trans hfn)).symm
      exact ⟨by kernel_rfl, fun j t ht => by
        rw [Tryz.params8] at ht
        have hm : t ∈ [115, 3, 3] := by simpa using Array.mem_of_getElem? ht
        have hall : ([115, 3, 3].all fun u => !Tryz.prog.wantsStandIn u) = true := by kernel_rfl
        exact (show Tryz.prog.wantsStandIn t = false by simpa using List.all_eq_true.1 hall t hm)⟩)
    (by kernel_rfl)
#print axioms pushOrder_card
end Go.Proofs.YtkplkienbgoofaaGreatDoor

