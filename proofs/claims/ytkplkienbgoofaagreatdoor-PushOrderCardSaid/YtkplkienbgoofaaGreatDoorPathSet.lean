/-
  path.Set: what it comes to.
-/
import Derived.Test.YtkplkienbgoofaaGreatDoorPathAny
import Derived.Test.YtkplkienbgoofaaGreatDoorPathFns
import Derived.Test.YtkplkienbgoofaaGreatDoorSetPlain
import Derived.Test.YtkplkienbgoofaaGreatDoorErrJ
import Derived.WalkKit
import Derived.Outline
import Derived.Below
import Derived.WalkLawsBesides
import Derived.WalkSpells
import Derived.Lib.Hide
import Derived.OwnWalk
import Derived.Deep.RegionLaw
import Derived.Deep.RegionLawGrows
import Derived.Deep.Upon
import Derived.Deep.QuietTactic
import Derived.BigQuiet
import Derived.BigFrame
import Derived.Laws.OwnMore
set_option linter.unusedVariables false
set_option linter.unusedSimpArgs false
namespace Go.Proofs.YtkplkienbgoofaaGreatDoor
open Go.RowKit
theorem infoStr : (Tryz.prog.info? 9).map (fun i => (i.zero, i.size, i.bytes)) = some (some (.string ⟨#[]⟩), 1, 16) := by kernel_rfl
/-- Nothing is appended, as a step of a region. -/
theorem step_append_nothing {P : Program} {ops : Array Oper} {o : Oper} {a : Act} {w : World} {K : Act → World → Prop} {Q : Exit → Act → World → Prop} {E : Prop}
    (hg : o.guard = none) (s x : Operand) (t : TypeId) (hop : o.op = Op.call { callee := Callee.builtin Builtin.append, args := #[s, x], argTypes := #[t, t] })
    (e : TypeId) (i : TypeInfo) (h1 : P.underlying t = some (.slice e)) (h2 : P.info? e = some i)
    (ao : Option Addr) (n cap : Nat) (hs : a.eval s = .slice ao n cap) (hle : n ≤ cap) (bo : Option Addr) (c : Nat) (hx : a.eval x = .slice bo 0 c)
    (hK : K (a.put o.dst (.slice ao n cap)) w) :
    if Region.wanted o (yielded ops a.tmps) = true then Oper.wp P o a w K Q else E := by
  have hw : Region.wanted o (yielded ops a.tmps) = true := by simp [Region.wanted, hg]
  rw [if_pos hw]
  have hsrc : Src P i.size t (.slice bo 0 c) 0 [] w := by
    cases bo with
    | none => exact Src.ofNil w h1 c
    | some b => exact Src.ofSlice w h1 b 0 c [] (by simp) (fun j u h => by simp at h) (fun u h => by cases h)
  have hrun := run_append_nothing (P := P) w t t o.type e i h1 h2 ao n cap hle _ hsrc
  unfold Oper.wp
  simp [execOp, hop, resolve, invoke, builtin, hs, hx, hrun, Result.andThen]
  exact hK
/-- .. in a straight region. -/
theorem wpList_append_nothing {P : Program} {ops : Array Oper} {rest : List Oper} {o : Oper} {a : Act} {w : World} {Q : Exit → Act → World → Prop}
    (hg : o.guard = none) (s x : Operand) (t : TypeId) (hop : o.op = Op.call { callee := Callee.builtin Builtin.append, args := #[s, x], argTypes := #[t, t] })
    (e : TypeId) (i : TypeInfo) (h1 : P.underlying t = some (.slice e)) (h2 : P.info? e = some i)
    (ao : Option Addr) (n cap : Nat) (hs : a.eval s = .slice ao n cap) (hle : n ≤ cap) (bo : Option Addr) (c : Nat) (hx : a.eval x = .slice bo 0 c)
    (hK : wpList P ops Q rest (a.put o.dst (.slice ao n cap)) w) : wpList P ops Q (o :: rest) a w := by
  refine wpList_plain hg fun K hK' => ?_
  have hsrc : Src P i.size t (.slice bo 0 c) 0 [] w := by
    cases bo with
    | none => exact Src.ofNil w h1 c
    | some b => exact Src.ofSlice w h1 b 0 c [] (by simp) (fun j u h => by simp at h) (fun u h => by cases h)
  have hrun := run_append_nothing (P := P) w t t o.type e i h1 h2 ao n cap hle _ hsrc
  unfold Oper.wp
  simp [execOp, hop, resolve, invoke, builtin, hs, hx, hrun, Result.andThen]
  exact hK' _ _ hK
/-- A slice's texts, where there are any. -/
def TextsIn (w : World) (ad : Addr) (l : List ByteArray) : Prop := ∀ k (h : k < l.length), w.cell? (ad.add k) = some (.string l[k])
theorem TextsIn.below {w w' : World} {ad : Addr} {l : List ByteArray} (h : TextsIn w ad l) (hb : Below w.heap.size w w') : TextsIn w' ad l := fun k hk => cell_below hb (h k hk)
def TextsAt (w : World) (b o : Nat) (l : List ByteArray) : Prop := ∀ k (h : k < l.length), w.cell? ⟨b, o + k, none⟩ = some (.string l[k])
theorem TextsAt.below {w w' : World} {b o : Nat} {l : List ByteArray} (h : TextsAt w b o l) (hb : Below w.heap.size w w') : TextsAt w' b o l := fun k hk => cell_below hb (h k hk)
def strs (l : List ByteArray) : List Value := l.map Value.string
/-- What path.Set hands back. -/
def SetPost (w : World) (r : SetR) (e : Ending) (w' : World) : Prop :=
  Below w.heap.size w w' ∧ match r with
  | .none_ i => ∃ v, e = .returned (.tuple #[.slice none 0 0, v]) ∧ ErrV w' v (.joined i 90)
  | .bad i c => ∃ v, e = .returned (.tuple #[.slice none 0 0, v]) ∧ ErrV w' v (.fault i c)
  | .ok xs => ∃ v, e = .returned (.tuple #[v, .nilIface]) ∧ w'.ownsRow w.heap.size 9 1 v xs.length (strs xs)
theorem setPost_bad {w W : World} {i c : Nat} {r : SetR} (hr : r = .bad i c) (hb : Below w.heap.size w W) :
    SetPost w r (.returned (.tuple #[.slice none 0 0, .iface 174 (.pointer (some ⟨W.heap.size, 0, none⟩))])) (W.alloc (.cells #[.int .i64 i, .int .i64 c] 176)) := by
  subst hr
  exact ⟨hb.alloc hb.size _, _, rfl, ⟨W.heap.size, rfl, by simp, by simp, _, _, heap_alloc_new W _⟩⟩
theorem own_below {w w1 : World} {base : Nat} {e : TypeId} {size n : Nat} {v : Value} {xs : List Value} (h : w.ownsRow base e size v n xs) (hb : Below w.heap.size w w1) : w1.ownsRow base e size v n xs :=
  h.kept (row := none) ⟨hb.os, hb.tape, hb.output, hb.size, fun i hi _ => hb.block i hi⟩ (by cases v.ownBlock <;> simp)
/-- The form of a row that holds texts. -/
theorem own_form {w : World} {base : Nat} {v : Value} {xs : List ByteArray} (h : w.ownsRow base 9 1 v xs.length (strs xs)) (hn : 0 < xs.length) :
    ∃ g cap, v = .slice (some ⟨g, 0, none⟩) xs.length cap ∧ xs.length ≤ cap ∧ TextsAt w g 0 xs := by
  rcases h.2 with ⟨_, h0⟩ | ⟨g, cap, cur, rfl, _, hb, hc, _, hs, ht⟩
  · omega
  · refine ⟨g, cap, rfl, hc, fun k hk => ?_⟩
    have h1 : (cur.toList.take (xs.length * 1))[k]? = some (.string xs[k]) := by rw [ht]; simp [strs, hk]
    rw [List.getElem?_take] at h1
    simp at h1
    simp [World.cell?, hb, h1.2]
theorem own_mono {w : World} {b b' : Nat} {e : TypeId} {size n : Nat} {v : Value} {xs : List Value} (h : w.ownsRow b e size v n xs) (hb : b' ≤ b) : w.ownsRow b' e size v n xs := by
  refine ⟨h.1, ?_⟩
  rcases h.2 with h1 | ⟨g, cap, cur, h1, h2, h3⟩
  · exact .inl h1
  · exact .inr ⟨g, cap, cur, h1, Nat.le_trans hb h2, h3⟩
/-- A row that isn't empty lies somewhere. -/
theorem own_some {w : World} {b n : Nat} {v : Value} {xs : List Value} {e : TypeId} (h : w.ownsRow b e 1 v n xs) (hn : 0 < n) : ∃ g c, v = .slice (some ⟨g, 0, none⟩) n c ∧ b ≤ g ∧ ∀ j u, xs[j]? = some u → w.cell? ((⟨g, 0, none⟩ : Addr).add j) = some u := by
  rcases h.2 with ⟨_, h0⟩ | ⟨g, cap, cur, rfl, hb, _⟩
  · omega
  · exact ⟨g, cap, rfl, hb, h.cells rfl⟩
theorem texts_cells {w : World} {g : Nat} {xs : List ByteArray} (h : TextsAt w g 0 xs) (j : Nat) (u : Value) (hj : (strs xs)[j]? = some u) : w.cell? ((⟨g, 0, none⟩ : Addr).add j) = some u := by
  obtain ⟨hlt, rfl⟩ := List.getElem?_eq_some_iff.1 hj
  have := h j (by simpa [strs] using hlt)
  rw [Addr.add_lit]
  simpa [strs] using this
theorem texts_drop {w : World} {g q : Nat} {xs : List ByteArray} (h : TextsAt w g 0 xs) (j : Nat) (u : Value) (hj : (strs (xs.drop q))[j]? = some u) : w.cell? ((⟨g, q, none⟩ : Addr).add j) = some u := by
  have hj2 : (strs xs)[q + j]? = some u := by rw [← hj]; simp [strs]
  have := texts_cells h (q + j) u hj2
  rw [Addr.add_lit] at this ⊢
  rw [← this]
  congr 2
  omega
theorem texts_take {w : World} {g q : Nat} {xs : List ByteArray} (h : TextsAt w g 0 xs) (j : Nat) (u : Value) (hj : (strs (xs.take q))[j]? = some u) : w.cell? ((⟨g, 0, none⟩ : Addr).add j) = some u := by
  refine texts_cells h j u ?_
  have hlt := (List.getElem?_eq_some_iff.1 hj).1
  rw [← hj]
  simp [strs] at hlt
  simp only [strs, List.getElem?_map]
  rw [List.getElem?_take, if_pos (by omega)]
theorem strs_one (xs : List ByteArray) : ∀ u ∈ strs xs, u.oneCell' = true := by
  intro u hu
  obtain ⟨x, _, rfl⟩ := List.mem_map.1 hu
  rfl
theorem below_of_grown {w w' : World} (h : w.grownBy w' none) : Below w.heap.size w w' := (Below.refl _ _).grown h (Nat.le_refl _) (fun k hk => by cases hk)
theorem hit_same {s x : ByteArray} (h : (x.toList == s.toList) = true) : hit s x = some 5 := by rw [hit, if_pos h]
theorem hit_clash {s x : ByteArray} (h : (x.toList == s.toList) = false) (hc : clashB x s = true) : hit s x = some 90 := by rw [hit, if_neg (by simp [h]), if_pos hc]
theorem hit_none {s x : ByteArray} (h : (x.toList == s.toList) = false) (hc : clashB x s = false) : hit s x = none := by rw [hit, if_neg (by simp [h]), if_neg (by simp [hc])]
theorem faultAt_new (w : World) (p e : Int) : FaultAt (w.alloc (.cells #[.int .i64 p, .int .i64 e] 176)) w.heap.size p e := ⟨by simp, by simp, _, _, heap_alloc_new w _⟩
/-- How far path.Set has come. -/
def SetAt (w : World) (l : List ByteArray) (v : Value) (i : Nat) (wr : World) : Prop :=
  ∃ xs : List ByteArray, wr.ownsRow w.heap.size 9 1 v xs.length (strs xs) ∧ Below w.heap.size w wr ∧ xs.length ≤ i ∧ (∀ x ∈ xs, x.size ≤ 140737488351232) ∧ (xs = [] → v = .slice none 0 0) ∧ setGo i xs (l.drop i) = setGo 0 [] l
theorem setAt_next {w w2 W w' : World} {l xs : List ByteArray} {s : ByteArray} {k n : Nat} {v : Value} {ys : List Value} (HB2 : Below w.heap.size w w2) (hW : Below w2.heap.size w2 W) (hg : W.grownBy w' none)
    (hown : w'.ownsRow W.heap.size 9 1 v n ys) (hn : n = (ins s xs).length) (hys : ys = strs (ins s xs)) (hxk : xs.length ≤ k) (hxz : ∀ x ∈ xs, x.size ≤ 140737488351232) (hsz : s.size ≤ 140737488351232) (hset : setGo (k + 1) (ins s xs) (l.drop (k + 1)) = setGo 0 [] l) : SetAt w l v (k + 1) w' := by
  subst hys hn
  have h1 := below_from HB2 hW
  refine ⟨ins s xs, own_mono hown h1.size, below_from h1 (below_of_grown hg), ?_, fun x hx => ?_, fun h => ?_, hset⟩
  · rw [ins_length]; omega
  · rcases List.mem_append.1 hx with h | h
    · exact hxz x (List.mem_of_mem_take h)
    · rcases List.mem_cons.1 h with rfl | h
      · exact hsz
      · exact hxz x (List.mem_of_mem_drop h)
  · have := congrArg List.length h
    rw [ins_length] at this
    simp at this
theorem setGo_next {l xs : List ByteArray} {s : ByteArray} {k : Nat} (h : setGo k xs (s :: l.drop (k + 1)) = setGo 0 [] l) (h1 : checkB s = none) (h2 : scan s xs = none) : setGo (k + 1) (ins s xs) (l.drop (k + 1)) = setGo 0 [] l := by
  rw [← h, setGo.eq_def k xs (s :: _)]
  simp only [h1, h2]
theorem setGo_hit {l xs : List ByteArray} {s : ByteArray} {k c : Nat} (h : setGo k xs (s :: l.drop (k + 1)) = setGo 0 [] l) (h1 : checkB s = none) (h2 : scan s xs = some c) : setGo 0 [] l = .bad k c := by
  rw [← h, setGo.eq_def k xs (s :: _)]
  simp only [h1, h2]
set_option maxRecDepth 100000 in
set_option maxHeartbeats 4000000 in
theorem set_walk (ad : Addr) (c : Nat) (l : List ByteArray) (w : World) (hl : l.length ≤ 1000) (hc : TextsIn w ad l) (hz : ∀ s ∈ l, s.size ≤ 140737488351232) (hg : EnvM w) :
    Calls Tryz.prog 76 #[.slice (some ad) l.length c] w (SetPost w (setGo 0 [] l)) := by
  obtain ⟨i0, hi0, hz0, hz1, hz2⟩ := info_parts infoStr
  have HC := Lib.hid hc
  have HZ := Lib.hid hz
  have HG := Lib.hid hg
  clear hc hz hg
  go_enter Tryz.func76, Tryz.ntmps76
  go_wp2_with fail
  go_loopw [4, 13] (fun v i wr => ∃ k : Nat, k ≤ l.length ∧ i = .int .i64 k ∧ SetAt w l v k wr) (fun _ i _ => l.length - (intOf i).toNat)
  case atStart => exact ⟨0, by omega, rfl, [], ⟨by simp [strs], .inl ⟨rfl, rfl⟩⟩, Below.refl _ _, by simp, (fun x hx => by cases hx), fun _ => rfl, rfl⟩
  case round =>
    obtain ⟨k, hk, rfl, xs, hown, hb, hxk, hxz0, hnil, hset⟩ := hrel
    have HXZ := Lib.hid hxz0
    clear hxz0
    have HO := Lib.hid hown
    have HS := Lib.hid hset
    have HN := Lib.hid hnil
    clear hown hset hnil
    by_cases hlt : k < l.length
    · obtain ⟨s, hs⟩ : ∃ s, s = l[k] := ⟨_, rfl⟩
      have hcell := (HC.out.below hb) k hlt
      rw [← hs] at hcell
      have hsz := HZ.out s (hs ▸ List.getElem_mem hlt)
      have hset2 : setGo k xs (s :: l.drop (k + 1)) = setGo 0 [] l := by rw [hs, ← List.drop_eq_getElem_cons hlt]; exact HS.out
      have HS2 := Lib.hid hset2
      have HGr := Lib.hid (HG.out.below hb)
      clear hs hset2
      cases hck : checkB s with
      | some p =>
        have hres : setGo 0 [] l = .none_ k := by rw [← HS2.out, setGo, hck]
        have HR := Lib.hid hres
        have HCK := Lib.hid hck
        clear hck hres
        go_wp2_with fail
        refine (check_bad s p _ hsz HGr.out HCK.out).mono ?_
        rintro e w2 ⟨f, rfl, hf, hb2⟩
        clear hf
        go_wp2_with fail
        refine (join_two (w2.heap.size + 1) w2.heap.size (k : Int) 90 174 (.pointer (some ⟨f, 0, none⟩)) _ (by rw [World.cell?_alloc_at _ _ _ _ (by simp)]; rfl) (by rw [World.cell?_alloc_at _ _ _ _ (by simp)]; rfl) ((faultAt_new w2 k 90).below (below_one _ _))).mono ?_
        rintro e w3 ⟨v3, rfl, hv3, hb3⟩
        have HV := Lib.hid hv3
        clear hv3
        go_wp2
        go_ret2
        refine ⟨below_from (below_from hb hb2) (below_from (below_two _ _ _) hb3), ?_⟩
        rw [HR.out]
        exact ⟨_, rfl, HV.out⟩
      | none =>
        have HCK := Lib.hid hck
        clear hck
        go_wp2_with fail
        refine (check_ok s _ hsz HGr.out HCK.out).mono ?_
        rintro e w2 ⟨rfl, hb2⟩
        have HO2 := Lib.hid (own_below HO.out hb2)
        have HB2 := Lib.hid (below_from hb hb2)
        clear hb hb2
        by_cases h0 : xs.length = 0
        · have hx0 : xs = [] := List.length_eq_zero_iff.1 h0
          have hv0 := HN.out hx0
          subst hv0
          go_wp2_with fail
          refine wp_loop_rounds 1 ?_
          rw [rounds_succ]
          go_wp2_with fail
          go_region_law (first | (refine step_append_nothing rfl (.tmp 67) (.tmp 70) 49 rfl 9 i0 Tryz.underlying49 hi0 (some ⟨w2.heap.size, 0, none⟩) 1 1 (by simp [Act.eval, Act.put]) (by omega) none 0 (by simp [Act.eval, Act.put]) ?_) | (refine step_append_grows rfl (.tmp 65) (.tmp 71) 49 rfl 9 i0 (.string ⟨#[]⟩) 1 16 Tryz.underlying49 hi0 hz0 hz1 hz2 rfl (by decide) none 0 0 [] (by simp [Act.eval, Act.put]) (fun _ => ⟨rfl, rfl⟩) rfl (fun b0 hb0 => by cases hb0) ⟨w2.heap.size, 0, none⟩ 1 1 [.string s] (by simp [Act.eval, Act.put]) rfl (cell_one_new w2 _ _) (fun u hu => by (simp at hu; subst hu; rfl)) (by omega) (by unfold maxLen; omega) (by omega) ?_; intro v' w' hown hgrow))
          go_wp2
          go_roundw
          case rel => exact ⟨k + 1, by omega, by go_num, setAt_next HB2.out ((below_one w2 _).drew) hgrow hown (by rw [hx0]; rfl) (by rw [hx0]; rfl) hxk HXZ.out hsz (setGo_next HS2.out HCK.out (by rw [hx0]; rfl))⟩
          case measure => simp [intOf]; omega
        · obtain ⟨g, cap, hv, hcap, hblk⟩ := own_form HO2.out (by omega)
          subst hv
          have HT := Lib.hid hblk
          clear hblk
          go_wp2_with fail
          go_loop [8, 33] (fun a i => ∃ j : Nat, j ≤ xs.length ∧ i = .int .i64 j ∧ a = .int .i64 (posTo s xs j) ∧ scan s (xs.take j) = none) (fun _ i => xs.length - (intOf i).toNat)
          case atStart => exact ⟨0, by omega, rfl, by rw [posTo_zero], rfl⟩
          case round =>
            obtain ⟨j, hj, rfl, rfl, hsc⟩ := hrel
            have HSC := Lib.hid hsc
            clear hsc
            by_cases hjl : j < xs.length
            · obtain ⟨x, hx⟩ : ∃ x, x = xs[j] := ⟨_, rfl⟩
              have hcx := HT.out j hjl
              rw [← hx] at hcx
              simp only [Nat.zero_add] at hcx
              have hcz := HXZ.out x (hx ▸ List.getElem_mem hjl)
              cases b1 : (x.toList == s.toList) with
              | true =>
                have hres := setGo_hit HS2.out HCK.out (scan_take_hit hjl HSC.out (by rw [← hx]; exact hit_same b1))
                have HR := Lib.hid hres
                clear hres
                have HX := Lib.hid hx
                clear hx
                go_wp2_with fail
                go_ret2
                exact setPost_bad (c := 5) HR.out HB2.out
              | false =>
                cases b2 : clashB x s with
                | true =>
                  have hres := setGo_hit HS2.out HCK.out (scan_take_hit hjl HSC.out (by rw [← hx]; exact hit_clash b1 b2))
                  have HR := Lib.hid hres
                  clear hres
                  have HX := Lib.hid hx
                  have HCL := Lib.hid (fun W => clash_any x s W hcz hsz)
                  clear hx
                  go_wp2_with fail
                  refine (HCL.out _).mono ?_
                  rintro e w3 ⟨rfl, rfl⟩
                  go_wp2_with fail
                  go_ret2
                  exact setPost_bad (c := 90) HR.out HB2.out
                | false =>
                  have HCL := Lib.hid (fun W => clash_any x s W hcz hsz)
                  have HNX := Lib.hid (scan_take_next hjl HSC.out (by rw [← hx]; exact hit_none b1 b2))
                  have hpn := posTo_next s xs j hjl
                  rw [← hx] at hpn
                  have hgt : gtB s x = !Op.bytesLess x.toList s.toList := by rw [gtB, b1]; simp
                  have HX := Lib.hid hx
                  clear hx
                  cases b3 : Op.bytesLess x.toList s.toList with
                  | true =>
                    rw [hgt, b3] at hpn
                    have HPN := Lib.hid hpn
                    clear hpn hgt
                    go_wp2_with fail
                    refine (HCL.out _).mono ?_
                    rintro e w3 ⟨rfl, rfl⟩
                    go_wp2_with fail
                    go_round
                    case rel => exact ⟨j + 1, by omega, by go_num, by rw [HPN.out]; rfl, HNX.out⟩
                    case measure => simp [intOf]; omega
                  | false =>
                    rw [hgt, b3] at hpn
                    by_cases h4 : j < posTo s xs j
                    · have hpn2 : posTo s xs (j + 1) = j := by rw [hpn]; simp [h4]
                      have HPN := Lib.hid hpn2
                      have h5 : decide ((j : Int) < (posTo s xs j : Int)) = true := by simp; omega
                      have h6 : decide (j < posTo s xs j) = true := by simp; omega
                      clear hpn hgt hpn2
                      go_wp2_with fail
                      refine (HCL.out _).mono ?_
                      rintro e w3 ⟨rfl, rfl⟩
                      go_wp2_with fail
                      go_round
                      case rel => exact ⟨j + 1, by omega, by go_num, by rw [HPN.out], HNX.out⟩
                      case measure => simp [intOf]; omega
                    · have hpn2 : posTo s xs (j + 1) = posTo s xs j := by rw [hpn]; simp [h4]
                      have HPN := Lib.hid hpn2
                      have h5 : decide ((j : Int) < (posTo s xs j : Int)) = false := by simp; omega
                      have h6 : decide (j < posTo s xs j) = false := by simp; omega
                      clear hpn hgt hpn2
                      go_wp2_with fail
                      refine (HCL.out _).mono ?_
                      rintro e w3 ⟨rfl, rfl⟩
                      go_wp2_with fail
                      go_round
                      case rel => exact ⟨j + 1, by omega, by go_num, by rw [HPN.out], HNX.out⟩
                      case measure => simp [intOf]; omega
            · obtain rfl : j = xs.length := by omega
              have hsn : scan s xs = none := by have := HSC.out; rwa [List.take_length] at this
              have HNEXT := Lib.hid (setGo_next HS2.out HCK.out hsn)
              have hd : decide (xs.length < xs.length) = false := by simp
              rw [posTo_end]
              have hq := pos_le s xs
              have hkl : k + 1 ≤ l.length := hlt
              clear hsn hlt hjl
              obtain ⟨q, hqe⟩ : ∃ q, q = pos s xs := ⟨_, rfl⟩
              rw [← hqe] at hq ⊢
              have hins : ins s xs = xs.take q ++ s :: xs.drop q := by rw [hqe]; rfl
              have HINS := Lib.hid hins
              have hx1000 : xs.length ≤ 1000 := by omega
              have hqc : q ≤ cap := by omega
              have hqc2 : (q : Int) ≤ (cap : Int) := by omega
              have hqn2 : (q : Int) ≤ (xs.length : Int) := by omega
              clear hins hqe
              by_cases hqn : q = xs.length
              · subst hqn
                obtain ⟨bo, hbo⟩ : ∃ bo, (if cap = xs.length then some (⟨g, 0, none⟩ : Addr) else some ⟨g, xs.length, none⟩) = bo := ⟨_, rfl⟩
                obtain ⟨bc, hbc⟩ : ∃ bc, cap - xs.length = bc := ⟨_, rfl⟩
                have olds1 : Hid (∀ b0, (some (⟨g, 0, none⟩ : Addr)) = some b0 → ∀ (j : Nat) (u : Value), (strs xs)[j]? = some u → ((w2.alloc (.cells #[.string s] 9)).drew).cell? (b0.add j) = some u) := by
                  rintro b0 hb0 j u hj
                  cases hb0
                  exact texts_cells ((HT.out).below (below_one w2 _)) j u hj
                go_wp2_with fail
                go_region_law (first | (refine step_append_nothing rfl (.tmp 67) (.tmp 70) 49 rfl 9 i0 Tryz.underlying49 hi0 (some ⟨w2.heap.size, 0, none⟩) 1 1 (by simp [Act.eval, Act.put]) (by omega) bo bc (by simp [Act.eval, Act.put, hbo, hbc]) ?_) | (refine step_append_grows rfl (.tmp 65) (.tmp 71) 49 rfl 9 i0 (.string ⟨#[]⟩) 1 16 Tryz.underlying49 hi0 hz0 hz1 hz2 rfl (by decide) (some ⟨g, 0, none⟩) xs.length xs.length (strs xs) (by simp [Act.eval, Act.put]) (fun h => by cases h) (by simp [strs]) olds1.out ⟨w2.heap.size, 0, none⟩ 1 1 [.string s] (by simp [Act.eval, Act.put]) rfl (cell_one_new w2 _ _) (fun u hu => by (simp at hu; subst hu; rfl)) (by omega) (by unfold maxLen; omega) (by omega) ?_; intro v' w' hown hgrow))
                go_wp2
                go_roundw
                case rel => exact ⟨k + 1, by omega, by go_num, setAt_next HB2.out ((below_one w2 _).drew) hgrow hown (by rw [ins_length]) (by rw [HINS.out]; simp [strs]) hxk HXZ.out hsz HNEXT.out⟩
                case measure => simp [intOf]; omega
              · have hqlt : q < xs.length := by omega
                have hne : ¬ cap = q := by omega
                have news1 : Hid (∀ (j : Nat) (u : Value), (strs (xs.drop q))[j]? = some u → ((w2.alloc (.cells #[.string s] 9)).drew).cell? ((⟨g, q, none⟩ : Addr).add j) = some u) := by
                  rintro j u hj
                  exact texts_drop ((HT.out).below (below_one w2 _)) j u hj
                have nl : Hid ((strs (xs.drop q)).length = (xs.length - q) * 1) := by simp [strs, Hid]
                have none1 : Hid (∀ u ∈ strs (xs.drop q), u.oneCell' = true) := strs_one _
                have htl : Hid (∀ u ∈ (.string s :: strs (xs.drop q)), u.oneCell' = true) := fun u hu => by
                  rcases List.mem_cons.1 hu with rfl | h
                  · rfl
                  · exact none1.out u h
                go_wp2_with fail
                go_region_law (first | (refine step_append_grows rfl (.tmp 67) (.tmp 70) 49 rfl 9 i0 (.string ⟨#[]⟩) 1 16 Tryz.underlying49 hi0 hz0 hz1 hz2 rfl (by decide) (some ⟨w2.heap.size, 0, none⟩) 1 1 [.string s] (by simp [Act.eval, Act.put]) (fun h => by cases h) rfl (fun b0 hb0 => by (cases hb0; exact cell_one_new w2 _ _)) ⟨g, q, none⟩ (xs.length - q) (cap - q) (strs (xs.drop q)) (by simp [Act.eval, Act.put, hne]) nl.out news1.out none1.out (by omega) (by unfold maxLen; omega) (by omega) ?_; intro v1 w1 hown1 hgrow1; obtain ⟨g1, c1, hv1, hg1, hc1⟩ := own_some hown1 (by omega); subst hv1) | (refine step_append_grows rfl (.tmp 65) (.tmp 71) 49 rfl 9 i0 (.string ⟨#[]⟩) 1 16 Tryz.underlying49 hi0 hz0 hz1 hz2 rfl (by decide) (some ⟨g, 0, none⟩) q q (strs (xs.take q)) (by simp [Act.eval, Act.put]) (fun h => by cases h) (by simp [strs]; omega) (fun b0 hb0 => by (cases hb0; exact texts_take (((HT.out).below ((below_one w2 _).drew)).below (below_of_grown hgrow1)))) ⟨g1, 0, none⟩ (1 + (xs.length - q)) c1 ([.string s] ++ strs (xs.drop q)) (by simp [Act.eval, Act.put]) (by simp [strs]; omega) hc1 htl.out (by omega) (by unfold maxLen; omega) (by omega) ?_; intro v' w' hown hgrow))
                go_wp2
                go_roundw
                case rel => exact ⟨k + 1, by omega, by go_num, setAt_next HB2.out (below_from ((below_one w2 _).drew) (below_of_grown hgrow1)) hgrow hown (by rw [ins_length]; omega) (by rw [HINS.out]; simp [strs]) hxk HXZ.out hsz HNEXT.out⟩
                case measure => simp [intOf]; omega
    · have hk2 : k = l.length := by omega
      have hres : setGo 0 [] l = .ok xs := by rw [← HS.out, hk2, List.drop_length]; rfl
      have HR := Lib.hid hres
      clear hk2 hres
      go_wp2
      go_ret2
      refine ⟨hb, ?_⟩
      rw [HR.out]
      exact ⟨_, rfl, HO.out⟩
set_option maxRecDepth 100000 in
set_option maxHeartbeats 4000000 in
theorem set_empty (A : Option Addr) (c : Nat) (w : World) :
    Calls Tryz.prog 76 #[.slice A 0 c] w (SetPost w (setGo 0 [] [])) := by
  go_enter Tryz.func76, Tryz.ntmps76
  go_wp2_with fail
  refine wp_loop_rounds 1 ?_
  rw [rounds_succ]
  go_wp2
  go_ret2
  exact ⟨Below.refl _ _, _, rfl, by simp [strs], .inl ⟨rfl, rfl⟩⟩
end Go.Proofs.YtkplkienbgoofaaGreatDoor
