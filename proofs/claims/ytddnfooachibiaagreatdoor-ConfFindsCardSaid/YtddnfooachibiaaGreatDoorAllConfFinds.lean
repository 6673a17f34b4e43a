/-
  The law ConfFinds holds for every input: the row and its card, out of the walk; taking of the package-level variables just what the card ties.
-/
import Derived.Test.YtddnfooachibiaaGreatDoorConfLike
import Derived.Test.YtddnfooachibiaaGreatDoorConfRefP
import Derived.Test.YtddnfooachibiaaGreatDoorConfArg
import Derived.Test.YtddnfooachibiaaGreatDoorArgs2
import Derived.Test.YtddnfooachibiaaGreatDoorCards
import Derived.Test.YtddnfooachibiaaGreatDoorTie
import Derived.Test.YtddnfooachibiaaGreatDoorRowKitC
import Derived.SevenTiedAt
import Derived.SizedLaws
set_option linter.unusedVariables false
set_option linter.unusedSimpArgs false
namespace Go.Proofs.YtddnfooachibiaaGreatDoor
open Go.RowKit Go.Maps Go.WideMaps Go.WideAt
/-- What both come to, of one text. -/
theorem parse_both {s : ByteArray} {w1 w2 w1' w2' : World} {e1 e2 : Ending} (h1 : ParsePost s w1 e1 w1') (h2 : RParsePost s w2 e2 w2') :
    (∃ t u p x, x ≠ 0 ∧ parseC s = (.fault p x, []) ∧ e1 = .returned (.tuple #[.agg #[.slice none 0 0], .iface t u]) ∧ ErrV w1' (.iface t u) (.fault p x) ∧ e2 = .returned (.tuple #[.slice none 0 0, .int .i64 x, .int .i64 p])) ∨
    (∃ A c q A2 c2 q2, parseC s = (.nil, q.map MRow.md) ∧ q.map MRow.md = q2.map RMRow.md ∧ e1 = .returned (.tuple #[.agg #[.slice A q.length c], .nilIface]) ∧ ModsIn w1' (.slice A q.length c) q ∧ e2 = .returned (.tuple #[.slice A2 q2.length c2, .int .i64 0, .int .i64 0]) ∧ RModsIn w2' (.slice A2 q2.length c2) q2) := by
  obtain ⟨_, ⟨t, u, g, p1, p2, p3, p4⟩ | ⟨cv, q, p1, p3, p4⟩⟩ := h1
  · obtain ⟨_, ⟨A, c, q, r1, _, _⟩ | ⟨p, x, r1, r2, r3⟩⟩ := h2
    · rw [r1] at p1
      injection p1 with p1 _
      exact absurd p1.symm p2
    · have r1' := r1
      rw [p1] at r1
      injection r1 with r1 _
      subst r1
      exact .inl ⟨t, u, p, x, r2, r1', p3, p4, r3⟩
  · obtain ⟨A, c, rfl, _⟩ := p4.row.slice
    obtain ⟨_, ⟨A2, c2, q2, r1, r2, r3⟩ | ⟨p, x, r1, _, _⟩⟩ := h2
    · have p1' := p1
      rw [r1] at p1
      injection p1 with _ p1
      exact .inr ⟨A, c, q, A2, c2, q2, p1', p1.symm, p3, p4, r2, r3⟩
    · rw [r1] at p1
      injection p1 with p1 _
      cases p1
theorem good_few {s : ByteArray} {q : List MRow} (h : parseC s = (.nil, q.map MRow.md)) : q.length ≤ 8 ∧ ∀ r ∈ q, r.md.us.length ≤ 8 := by
  obtain ⟨hg, h8, _, _⟩ := parse_good h
  exact ⟨by simpa using h8, fun r hr => (hg r.md (List.mem_map.2 ⟨r, hr, rfl⟩)).most⟩
set_option maxRecDepth 100000 in
set_option maxHeartbeats 2000000 in
theorem confParses_walk (s : ByteArray) (w : World) (hs : s.size ≤ 140737488351232) (hg : EnvC w) : Calls Tryz.prog 3 #[.string s] w fun e w' => e = .returned (.bool true) ∧ Below w.heap.size w w' := by
  have HH := Lib.hid (parses_any w hg)
  have HG := Lib.hid hg
  clear hg
  go_enter Tryz.func3, Tryz.ntmps3
  go_wp2_with fail
  refine HH.out.mono ?_
  rintro e w1 ⟨rfl, hb1⟩
  have HB1 := Lib.hid hb1
  have HP := Lib.hid (cparse_any s w1 hs (HG.out.below hb1))
  clear hb1
  by_cases hz : 9000 < s.size
  · have hzi : (9000 : Int) < s.size := by omega
    go_wp2_with fail
    go_ret
    exact ⟨rfl, HB1.out⟩
  · have hzi : ¬ (9000 : Int) < s.size := by omega
    have hzi2 : decide ((9000 : Int) < s.size) = false := decide_eq_false hzi
    go_wp2_with fail
    refine HP.out.mono ?_
    intro e w3 hp
    have hb3 := hp.1
    have hkey : (∃ A n c er, e = .returned (.tuple #[.agg #[.slice A n c], er])) := by
      obtain ⟨_, ⟨t, u, g, _, _, p3, _⟩ | ⟨cv, q, _, p3, p4⟩⟩ := hp
      · exact ⟨none, 0, 0, _, p3⟩
      · obtain ⟨A, c, e', _⟩ := p4.row.slice
        rw [e'] at p3
        exact ⟨A, _, c, _, p3⟩
    obtain ⟨A, n, c, er, rfl⟩ := hkey
    have hb4 := below_one w3 (.cells #[.slice A n c] 25)
    have hn4 := heap_alloc_new w3 (.cells #[.slice A n c] 25)
    have HB4 := Lib.hid (below_from HB1.out (below_from hb3 hb4))
    have HP4 := Lib.hid hp
    have HR := Lib.hid (rparse_any s (w3.alloc (.cells #[.slice A n c] 25)) hs)
    have HN4 := Lib.hid hn4
    have hb4' := Lib.hid hb4
    clear hp hb3 hb4 hn4
    go_wp2_with fail
    refine HR.out.mono ?_
    intro e w5 hr
    have hb5 := hr.1
    have HB5 := Lib.hid hb5
    have y0 : w5.cell? ⟨w3.heap.size, 0, none⟩ = some (.slice A n c) := by rw [cell_of_row _ _ 0 _ _ _ (block_below HN4.out hb5)]; rfl
    rcases parse_both HP4.out hr with ⟨t, u, p, x, hx0, hpc, e1, hev, rfl⟩ | ⟨A1, c1, q, A2, c2, q2, hpc, hqq, e1, hm, rfl, hrm⟩
    · injection e1 with e1
      injection e1 with e1
      simp only [Array.mk.injEq, List.cons.injEq, Value.agg.injEq, Value.slice.injEq, and_true] at e1
      obtain ⟨⟨rfl, rfl, rfl⟩, rfl⟩ := e1
      have bx0 : (x == 0) = false := by simpa using hx0
      have bx1 : (x != 0) = true := by simpa using hx0
      have HEV := Lib.hid ((hev.below hb4'.out).below hb5)
      have HNU := Lib.hid (number (.iface t u) (.fault p x) w5 HEV.out (HG.out.below (below_from HB4.out hb5)).env)
      clear hr hb5 hev
      go_wp2_with fail
      refine HNU.out.mono ?_
      rintro e w6 ⟨rfl, hb6⟩
      have HB6 := Lib.hid hb6
      have HPL := Lib.hid (place (.iface t u) (.fault p x) w6 (HEV.out.below hb6) (HG.out.below (below_from HB4.out (below_from HB5.out hb6))).env)
      simp only [GErr.num]
      replace y0 := cell_below hb6 y0
      clear hb6
      go_wp2_with fail
      refine HPL.out.mono ?_
      rintro e w7 ⟨rfl, hb7⟩
      have HB7 := Lib.hid hb7
      simp only [GErr.place]
      replace y0 := cell_below hb7 y0
      have HL := Lib.hid (like_any (.slice none 0 0) [] none 0 [] w7 (by simp) (fun r h => by cases h) ⟨RowIn.nil _ _ _, fun r h => by cases h⟩ ⟨RowIn.nil _ _ _, (fun r h => by cases h), (fun r h => by cases h)⟩ rfl)
      clear hb7
      go_wp2_with fail
      refine HL.out.mono ?_
      rintro e w8 ⟨rfl, hb8⟩
      have HB8 := Lib.hid hb8
      clear hb8
      go_wp2_with fail
      go_ret
      exact ⟨rfl, below_from HB4.out (below_from HB5.out (below_from HB6.out (below_from HB7.out HB8.out)))⟩
    · injection e1 with e1
      injection e1 with e1
      simp only [Array.mk.injEq, List.cons.injEq, Value.agg.injEq, Value.slice.injEq, and_true] at e1
      obtain ⟨⟨rfl, rfl, rfl⟩, rfl⟩ := e1
      obtain ⟨h8, hu8⟩ := good_few hpc
      have HM := Lib.hid ((hm.below hb4'.out).below hb5)
      have HRM := Lib.hid hrm
      have HQQ := Lib.hid hqq
      have HU8 := Lib.hid hu8
      have hq2 : q2.length = q.length := by
        have := congrArg List.length hqq
        simpa using this.symm
      have HNU := Lib.hid (number .nilIface .nil w5 rfl (HG.out.below (below_from HB4.out hb5)).env)
      clear hr hb5 hm hrm hqq hu8 hpc
      go_wp2_with fail
      refine HNU.out.mono ?_
      rintro e w6 ⟨rfl, hb6⟩
      have HB6 := Lib.hid hb6
      simp only [GErr.num]
      replace y0 := cell_below hb6 y0
      have HL := Lib.hid (like_any _ q A2 c2 q2 w6 (by omega) (fun r h => Nat.le_trans (HU8.out r h) (by decide)) (HM.out.below hb6) (HRM.out.below hb6) HQQ.out)
      rw [hq2] at HL
      clear hb6
      go_wp2_with fail
      refine HL.out.mono ?_
      rintro e w8 ⟨rfl, hb8⟩
      have HB8 := Lib.hid hb8
      clear hb8
      go_wp2_with fail
      go_ret
      exact ⟨rfl, below_from HB4.out (below_from HB5.out (below_from HB6.out HB8.out))⟩
end Go.Proofs.YtddnfooachibiaaGreatDoor

namespace Go.Proofs.YtddnfooachibiaaGreatDoor
open Go.RowKit Go.Maps Go.WideMaps Go.WideAt
open Go.Proofs.YtddnfooachibiaaGreatDoorW.PrintWords (Kd ReadsRow)
theorem any_root (f : ModC → Bool) (h : ∀ a b : ModC, a.root = b.root → f a = f b) : ∀ (l l' : List ModC), l.map ModC.root = l'.map ModC.root → l.any f = l'.any f
  | [], [], _ => rfl
  | a :: r, b :: r', e => by
    rw [List.map_cons, List.map_cons] at e
    injection e with e1 e2
    rw [List.any_cons, List.any_cons, h a b e1, any_root f h r r' e2]
theorem whole_roots : ∀ (ms ms' : List ModC) (i : Nat) (bf bf' : List ModC), ms.map ModC.root = ms'.map ModC.root → bf.map ModC.root = bf'.map ModC.root → wholeC i bf ms = wholeC i bf' ms'
  | [], [], _, _, _, _, _ => rfl
  | m :: t, m' :: t', i, bf, bf', h, hb => by
    rw [List.map_cons, List.map_cons] at h
    injection h with h1 h2
    rw [wholeC, wholeC, h1]
    have e : bf.any (fun x => decide (x.root = m'.root) || clashB x.root m'.root) = bf'.any (fun x => decide (x.root = m'.root) || clashB x.root m'.root) := any_root _ (fun a b e => by simp only [e]) bf bf' hb
    rw [e, whole_roots t t' (i + 1) (bf ++ [m]) (bf' ++ [m']) h2 (by rw [List.map_append, List.map_append, hb, List.map_singleton, List.map_singleton, h1])]
/-- A module as the law hands it to the reference. -/
def bareR (r : MRow) : RMRow := ⟨⟨r.md.name, r.md.root, false, 0, 0, []⟩, .slice none 0 0, .slice none 0 0, []⟩
set_option maxRecDepth 100000 in
set_option maxHeartbeats 2000000 in
theorem finds_any (Aq : Option Addr) (cq : Nat) (q : List MRow) (n0 n1 : ByteArray) (w : World) (hq : ModsIn w (.slice Aq q.length cq) q) (hg : EnvC w) :
    Calls Tryz.prog 4 #[.agg #[.slice Aq q.length cq], .agg #[.string n0, .string n1]] w fun e w' => e = .returned (.bool true) ∧ Below w.heap.size w w' := by
  have hb0 : Below w.heap.size w ((w.alloc (.cells #[.slice Aq q.length cq] 25)).alloc (.cells #[.string n0, .string n1] 38)) := below_two w _ _
  have HH := Lib.hid (parses_any _ (hg.below hb0))
  have HG := Lib.hid hg
  have HQ := Lib.hid hq
  clear hg hq hb0
  go_enter Tryz.func4, Tryz.ntmps4
  go_wp2_with fail
  refine HH.out.mono ?_
  rintro e w1 ⟨rfl, hb1⟩
  have hbw1 : Below w.heap.size w w1 := below_from (below_two w _ _) hb1
  have hcf := block_below (block_below (heap_alloc_new w (.cells #[.slice Aq q.length cq] 25)) (below_one _ (.cells #[.string n0, .string n1] 38))) hb1
  have hnm := block_below (heap_alloc_new (w.alloc (.cells #[.slice Aq q.length cq] 25)) (.cells #[.string n0, .string n1] 38)) hb1
  rw [show (w.alloc (.cells #[.slice Aq q.length cq] 25)).heap.size = w.heap.size + 1 by simp] at hnm
  have y0 : w1.cell? ⟨w.heap.size, 0, none⟩ = some (.slice Aq q.length cq) := by rw [cell_of_row _ _ 0 _ _ _ hcf]; rfl
  have yn0 : w1.cell? ⟨w.heap.size + 1, 0, none⟩ = some (.string n0) := by rw [cell_of_row _ _ 0 _ _ _ hnm]; rfl
  have yn1 : w1.cell? ⟨w.heap.size + 1, 1, none⟩ = some (.string n1) := by rw [cell_of_row _ _ 1 _ _ _ hnm]; rfl
  have HC : Hid (∀ W, Below w1.heap.size w1 W → W.cell? ⟨w.heap.size, 0, none⟩ = some (.slice Aq q.length cq) ∧ W.cell? ⟨w.heap.size + 1, 0, none⟩ = some (.string n0) ∧ W.cell? ⟨w.heap.size + 1, 1, none⟩ = some (.string n1)) := Lib.hid (fun W hW => ⟨cell_below hW y0, cell_below hW yn0, cell_below hW yn1⟩)
  have HBW1 := Lib.hid hbw1
  clear hb1 hbw1 hcf hnm yn0 yn1
  by_cases h20 : 20 < q.length
  · have h20i : (20 : Int) < q.length := by omega
    go_wp2_with fail
    go_ret
    exact ⟨rfl, HBW1.out⟩
  · have h20i : ¬ (20 : Int) < q.length := by omega
    have hql : q.length ≤ 20 := by omega
    clear h20
    go_wp2_with fail
    clear y0
    go_loopw [5, 7, 28] (fun ov _ i wr => ∃ k : Nat, k ≤ q.length ∧ i = .int .i64 k ∧ wr.ownsRow w1.heap.size 45 7 ov k (flatR ((q.take k).map bareR)) ∧ Below w1.heap.size w1 wr ∧ ∀ j (hj : j < q.length), j < k → q[j].md.root.size ≤ 200 ∧ q[j].md.us.length ≤ 20) (fun _ _ i _ => q.length - (intOf i).toNat)
    case atStart => exact ⟨0, by omega, rfl, World.ownsRow_nil _ _ _ _, Below.refl _ _, fun j hj h => by omega⟩
    case round =>
      obtain ⟨k, hk, rfl, hown, hbk, hsm⟩ := hrel
      obtain ⟨wk, rfl⟩ : ∃ W, W = wr := ⟨wr, rfl⟩
      have HBK := Lib.hid hbk
      have HSM := Lib.hid hsm
      obtain ⟨Ao, co, rfl⟩ := own_slice hown
      have HOWN := Lib.hid hown
      clear hown hsm
      by_cases hlt : k < q.length
      · obtain ⟨c2, b, off, nm, rt, wb, sl, qu, us, Au, cu, hm, e2, ⟨x0, x1, x2, x3, x4, x5⟩, -⟩ := HQ.out.one k hlt
        injection e2 with e2 hz1 hz2
        clear hz1
        subst e2 hz2
        have hbx := below_from HBW1.out hbk
        replace x0 := cell_below hbx x0
        replace x1 := cell_below hbx x1
        replace x2 := cell_below hbx x2
        replace x3 := cell_below hbx x3
        replace x4 := cell_below hbx x4
        replace x5 := cell_below hbx x5
        obtain ⟨W2, hW2⟩ : ∃ W, W = wk.alloc (.cells #[.string nm, .string rt, .bool wb, .int .i64 sl, .int .i64 qu, .slice Au us.length cu] 41) := ⟨_, rfl⟩
        have hm2 : W2.heap[wk.heap.size]? = some (Obj.cells #[.string nm, .string rt, .bool wb, .int .i64 sl, .int .i64 qu, .slice Au us.length cu] 41 (0, 0)) := by rw [hW2]; exact heap_alloc_new wk _
        have hb2 : Below wk.heap.size wk W2 := by rw [hW2]; exact below_one wk _
        obtain ⟨g, hg⟩ : ∃ g, g = wk.heap.size := ⟨_, rfl⟩
        rw [← hg] at hm2
        have m0 : W2.cell? ⟨g, 0, none⟩ = some (.string nm) := by rw [cell_of_row _ _ 0 _ _ _ hm2]; rfl
        have m1 : W2.cell? ⟨g, 1, none⟩ = some (.string rt) := by rw [cell_of_row _ _ 1 _ _ _ hm2]; rfl
        have m5 : W2.cell? ⟨g, 5, none⟩ = some (.slice Au us.length cu) := by rw [cell_of_row _ _ 5 _ _ _ hm2]; rfl
        have HB2 := Lib.hid (below_from hbk hb2)
        have HO2 := Lib.hid (own_stay HOWN.out hb2)
        have HMD := Lib.hid hm
        clear hm2 hb2 hbk hbx hm
        go_upto_region 9 with fail
        rw [← hW2, ← hg]
        clear hW2 hg x0 x1 x2 x3 x4 x5
        by_cases h200 : 200 < rt.size
        · have h200i : (200 : Int) < rt.size := by omega
          go_wp2_with fail
          go_ret
          exact ⟨rfl, below_from HBW1.out HB2.out⟩
        · have h200i : ¬ (200 : Int) < rt.size := by omega
          have h200d : decide ((200 : Int) < rt.size) = false := decide_eq_false h200i
          by_cases hu20 : 20 < us.length
          · have hu20i : (20 : Int) < us.length := by omega
            have hu20d : decide ((20 : Int) < us.length) = true := decide_eq_true hu20i
            go_wp2_with fail
            go_ret
            exact ⟨rfl, below_from HBW1.out HB2.out⟩
          · have hu20i : ¬ (20 : Int) < us.length := by omega
            have hu20d : decide ((20 : Int) < us.length) = false := decide_eq_false hu20i
            obtain ⟨j0, hj0, hjz0, hjz1, hjz2⟩ := info_parts infoRMod
            have hrz : rt.size ≤ 200 := by omega
            have huz : us.length ≤ 20 := by omega
            have HSRC := Lib.hid (src_row W2 [.string nm, .string rt, .bool false, .int .i64 0, .int .i64 0, .slice none 0 0, .slice none 0 0] 45)
            have HO3 := Lib.hid (own_stay HO2.out (below_one W2 (.cells #[.string nm, .string rt, .bool false, .int .i64 0, .int .i64 0, .slice none 0 0, .slice none 0 0] 45)))
            have HB3 := Lib.hid (below_from HB2.out (below_one W2 (.cells #[.string nm, .string rt, .bool false, .int .i64 0, .int .i64 0, .slice none 0 0, .slice none 0 0] 45)))
            have HSZ := Lib.hid HB3.out.size
            clear h200 hu20
            go_wp2_with (at_builtin; (refine wpList_append_own _ rfl (.tmp 42) (.tmp 48) 30 rfl w1.heap.size 45 j0 (.agg #[.string ⟨#[]⟩, .string ⟨#[]⟩, .bool false, .int .i64 0, .int .i64 0, .slice none 0 0, .slice none 0 0]) 7 104 Tryz.underlying30 hj0 hjz0 hjz1 hjz2 rfl (by decide) (.slice Ao k co) k (flatR ((q.take k).map bareR)) (by simp [Act.eval, Act.put]) HO3.out ⟨W2.heap.size, 0, none⟩ 1 1 [.string nm, .string rt, .bool false, .int .i64 0, .int .i64 0, .slice none 0 0, .slice none 0 0] (by simp [Act.eval, Act.put]) rfl HSRC.out (by simp [Value.oneCell']) (by unfold maxLen; omega) (by omega) HSZ.out ?_; intro v7 w7 hown7 hg7 _; obtain ⟨A7, c7, rfl⟩ := own_slice hown7; have HO7 := Lib.hid hown7; have HB7 := Lib.hid (HB3.out.grown hg7 HSZ.out (fun j hj => (HO3.out.lt j hj).1)); clear hown7 hg7))
            go_roundw
            case rel => exact ⟨k + 1, by omega, by go_num, by
              have e1 : flatR ((q.take (k + 1)).map bareR) = flatR ((q.take k).map bareR) ++ [.string nm, .string rt, .bool false, .int .i64 0, .int .i64 0, .slice none 0 0, .slice none 0 0] := by
                rw [List.take_succ_eq_append_getElem hlt, List.map_append, List.map_singleton, flatR_snoc]
                simp only [bareR, RMRow.cells, HMD.out]
              rw [e1]
              exact HO7.out, HB7.out, fun j hj h => by
              by_cases e : j = k
              · subst e; rw [HMD.out]; exact ⟨hrz, huz⟩
              · exact HSM.out j hj (by omega)⟩
            case measure => simp [intOf]; omega
      · obtain rfl : k = q.length := by omega
        rw [List.take_length] at HOWN
        have hrl : (q.map bareR).length = q.length := by simp
        have HRM : Hid (RModsIn wk (.slice Ao (q.map bareR).length co) (q.map bareR)) := Lib.hid ⟨by rw [hrl]; exact RowIn.of_own HOWN.out (by decide), fun r hr => by
          obtain ⟨r', _, rfl⟩ := List.mem_map.1 hr
          exact RowIn.nil _ _ _, fun r hr => by
          obtain ⟨r', _, rfl⟩ := List.mem_map.1 hr
          exact RowIn.nil _ _ _⟩
        have HRZ : Hid (∀ r ∈ q, r.md.root.size ≤ 200) := Lib.hid (fun r hr => by
          obtain ⟨j, hj, rfl⟩ := List.getElem_of_mem hr
          exact (HSM.out j hj hj).1)
        have HUZ : Hid (∀ r ∈ q, r.md.us.length ≤ 20) := Lib.hid (fun r hr => by
          obtain ⟨j, hj, rfl⟩ := List.getElem_of_mem hr
          exact (HSM.out j hj hj).2)
        have hwh : wholeC 0 [] ((q.map bareR).map RMRow.md) = wholeC 0 [] (q.map MRow.md) := whole_roots _ _ 0 [] [] (by simp only [List.map_map]; rfl) rfl
        obtain ⟨G, hG⟩ : ∃ G, G = wholeC 0 [] (q.map MRow.md) := ⟨_, rfl⟩
        have HCK := Lib.hid (rcheckM_any Ao co (q.map bareR) wk (by omega) (fun r hr => by
          obtain ⟨r', hr', rfl⟩ := List.mem_map.1 hr
          exact Nat.le_trans (HRZ.out r' hr') (by decide)) HRM.out)
        rw [hwh, hrl, ← hG] at HCK
        have HCC := Lib.hid (fun (W : World) (hW : Below w.heap.size w W) => ccheck_any (.slice Aq q.length cq) q W (by omega) (fun r hr => Nat.le_trans (HRZ.out r hr) (by decide)) (HQ.out.below hW))
        rw [← hG] at HCC
        obtain ⟨bad, at', hres, hnum, hpl⟩ : ∃ bad at' : Int, whRes G = .returned (.tuple #[.int .i64 bad, .int .i64 at']) ∧ G.num = bad ∧ (bad ≠ 0 → G.place = at') := by
          rw [hG]
          rcases whole_form (q.map MRow.md) 0 [] with hw | ⟨p, x, hw⟩
          · rw [hw]; exact ⟨0, 0, rfl, rfl, fun h => absurd rfl h⟩
          · rw [hw]; exact ⟨x, p, rfl, rfl, fun _ => rfl⟩
        rw [hres] at HCK
        have HNUM := Lib.hid hnum
        have HPL := Lib.hid hpl
        clear hG hwh hres hnum hpl hbk
        go_wp2_with fail
        refine HCK.out.mono ?_
        rintro e w5 ⟨rfl, hb5⟩
        have hb15 := below_from HBK.out hb5
        have HB5 := Lib.hid hb15
        obtain ⟨y0, -, -⟩ := HC.out w5 hb15
        have HCC5 := Lib.hid (HCC.out w5 (below_from HBW1.out hb15))
        clear hb5 hb15
        go_wp2_with fail
        refine HCC5.out.mono ?_
        rintro e w6 ⟨er, rfl, hev, hb6⟩
        have HEV := Lib.hid hev
        have HB6 := Lib.hid (below_from HB5.out hb6)
        clear hev hb6 y0
        go_upto_region 15 with fail
        go_cut [71] from 58 to 71 (fun tv wc => tv = .bool false ∧ Below w6.heap.size w6 wc)
        case first =>
          have HNU : Hid (Calls Tryz.prog 12 #[er] w6 fun e w' => e = .returned (.int .i64 bad) ∧ Below w6.heap.size w6 w') := Lib.hid (by
            have := number er G w6 HEV.out (HG.out.below (below_from HBW1.out HB6.out)).env
            rw [HNUM.out] at this
            exact this)
          go_wp2_with fail
          refine HNU.out.mono ?_
          rintro e w7 ⟨rfl, hb7⟩
          have HB7 := Lib.hid hb7
          by_cases hbad : bad = 0
          · subst hbad
            clear hb7
            go_wp2_with fail
            go_meet
            case rel => exact ⟨rfl, HB7.out⟩
          · have bb : (bad != 0) = true := by rw [bne_iff_ne]; exact hbad
            have HPC : Hid (Calls Tryz.prog 13 #[er] w7 fun e w' => e = .returned (.int .i64 at') ∧ Below w7.heap.size w7 w') := Lib.hid (by
              have := place er G w7 (HEV.out.below hb7) (HG.out.below (below_from HBW1.out (below_from HB6.out hb7))).env
              rw [HPL.out hbad] at this
              exact this)
            clear hb7 hbad
            go_wp2_with fail
            refine HPC.out.mono ?_
            rintro e w8 ⟨rfl, hb8⟩
            have HB8 := Lib.hid (below_from HB7.out hb8)
            clear hb8
            go_wp2_with fail
            go_meet
            case rel => exact ⟨rfl, HB8.out⟩
        case rest =>
        obtain ⟨rfl, hb9⟩ := hcut
        obtain ⟨w9, rfl⟩ : ∃ W, W = wc := ⟨wc, rfl⟩
        have hb19 := below_from HB6.out hb9
        have HB9 := Lib.hid hb19
        obtain ⟨y0, v0, v1⟩ := HC.out w9 hb19
        have HF := Lib.hid (cfind_any (.slice Aq q.length cq) q n0 w9 (by omega) (HQ.out.below (below_from HBW1.out hb19)))
        clear hb9 hb19 HCK HCC HCC5 HEV HNUM HPL HRM HOWN HBK
        go_wp2_with fail
        refine HF.out.mono ?_
        rintro e w10 ⟨rfl, hb10⟩
        have hb110 := below_from HB9.out hb10
        have HB10 := Lib.hid hb110
        rcases hfq : findQ q n0 with _ | r
        · simp only [findV, zMod, Option.isSome]
          have HFQ := Lib.hid hfq
          obtain ⟨W11, hW11⟩ : ∃ W, W = w10.alloc (.cells #[.string ⟨#[]⟩, .string ⟨#[]⟩, .bool false, .int .i64 0, .int .i64 0, .slice none 0 0] 41) := ⟨_, rfl⟩
          have hb11 : Below w10.heap.size w10 W11 := by rw [hW11]; exact below_one w10 _
          have hz11 : W11.heap[w10.heap.size]? = some (Obj.cells #[.string ⟨#[]⟩, .string ⟨#[]⟩, .bool false, .int .i64 0, .int .i64 0, .slice none 0 0] 41 (0, 0)) := by rw [hW11]; exact heap_alloc_new w10 _
          obtain ⟨g11, hg11⟩ : ∃ g, g = w10.heap.size := ⟨_, rfl⟩
          rw [← hg11] at hz11
          have hb111 := below_from hb110 hb11
          have HB11 := Lib.hid hb111
          have HBW11 := Lib.hid (below_from HBW1.out hb111)
          have HZ11 := Lib.hid hz11
          obtain ⟨yc, -, -⟩ := HC.out W11 hb111
          clear hb10 hb110 hb11 hz11 hb111 hfq y0 v0 v1
          go_upto_region 18 with fail
          rw [← hW11, ← hg11]
          clear hW11 hg11
          go_wp2_with fail
          clear yc
          go_loopw [14, 82] (fun _ i wr => ∃ k : Nat, k ≤ q.length ∧ i = .int .i64 k ∧ Below W11.heap.size W11 wr ∧ findQ q n0 = findQ (q.drop k) n0) (fun _ i _ => q.length - (intOf i).toNat)
          case atStart => exact ⟨0, by omega, rfl, Below.refl _ _, rfl⟩
          case round =>
            obtain ⟨k, hk, rfl, hbk, hfk⟩ := hrel
            obtain ⟨wk, rfl⟩ : ∃ W, W = wr := ⟨wr, rfl⟩
            have HBK := Lib.hid hbk
            have HFK := Lib.hid hfk
            clear hfk
            by_cases hlt : k < q.length
            · obtain ⟨c2, b2, off2, nm2, rt2, wb2, sl2, qu2, us2, Au2, cu2, hm, e2, ⟨x0, x1, x2, x3, x4, x5⟩, hu2⟩ := HQ.out.one k hlt
              injection e2 with e2 hz1 hz2
              clear hz1
              subst e2 hz2
              have hbx := below_from HBW11.out hbk
              replace x0 := cell_below hbx x0
              replace x1 := cell_below hbx x1
              replace x2 := cell_below hbx x2
              replace x3 := cell_below hbx x3
              replace x4 := cell_below hbx x4
              replace x5 := cell_below hbx x5
              obtain ⟨W2, hW2⟩ : ∃ W, W = wk.alloc (.cells #[.string nm2, .string rt2, .bool wb2, .int .i64 sl2, .int .i64 qu2, .slice Au2 us2.length cu2] 41) := ⟨_, rfl⟩
              have hm2 : W2.heap[wk.heap.size]? = some (Obj.cells #[.string nm2, .string rt2, .bool wb2, .int .i64 sl2, .int .i64 qu2, .slice Au2 us2.length cu2] 41 (0, 0)) := by rw [hW2]; exact heap_alloc_new wk _
              have hb2 : Below wk.heap.size wk W2 := by rw [hW2]; exact below_one wk _
              obtain ⟨g, hg⟩ : ∃ g, g = wk.heap.size := ⟨_, rfl⟩
              rw [← hg] at hm2
              have m0 : W2.cell? ⟨g, 0, none⟩ = some (.string nm2) := by rw [cell_of_row _ _ 0 _ _ _ hm2]; rfl
              have HB2 := Lib.hid (below_from hbk hb2)
              have HM2 := Lib.hid hm2
              have HMD := Lib.hid hm
              have HU2 := Lib.hid hu2
              obtain ⟨-, v0, v1⟩ := HC.out W2 (below_from HB11.out (below_from hbk hb2))
              clear hm2 hb2 hbk hbx hm hu2
              go_upto_region 21 with fail
              rw [← hW2, ← hg]
              clear hW2 hg x0 x1 x2 x3 x4 x5
              by_cases e0 : nm2 = n0
              · exfalso
                have := findQ_hit hlt (by rw [HMD.out]; exact e0) HFK.out
                rw [HFQ.out] at this
                cases this
              · have be := ne_beq e0
                have HFN := Lib.hid (findQ_miss hlt (by rw [HMD.out]; exact e0) HFK.out)
                clear e0
                go_wp2_with fail
                go_roundw
                case rel => exact ⟨k + 1, by omega, by go_num, HB2.out, HFN.out⟩
                case measure => simp [intOf]; omega
            · obtain rfl : k = q.length := by omega
              have hz := block_below HZ11.out hbk
              have z0 : wk.cell? ⟨g11, 0, none⟩ = some (.string ⟨#[]⟩) := by rw [cell_of_row _ _ 0 _ _ _ hz]; rfl
              have z5 : wk.cell? ⟨g11, 5, none⟩ = some (.slice none 0 0) := by rw [cell_of_row _ _ 5 _ _ _ hz]; rfl
              clear hbk hz
              go_wp2_with fail
              go_ret
              exact ⟨rfl, below_from HBW11.out HBK.out⟩
        · have HFQ := Lib.hid hfq
          obtain ⟨hrq, hrn⟩ := findQ_mem hfq
          obtain ⟨Au, cu, huv, -⟩ := (HQ.out.us r hrq).slice
          have HUR := Lib.hid (HQ.out.us r hrq)
          rw [huv] at HUR
          have hval : r.val = .agg #[.string r.md.name, .string r.md.root, .bool r.md.wr, .int .i64 r.md.sl, .int .i64 r.md.qu, .slice Au r.md.us.length cu] := by unfold MRow.val; rw [huv]
          rcases hrm : r.md with ⟨nm, rt, wb, sl, qu, us⟩
          rw [hrm] at hval HUR
          simp only at hval HUR
          have HR := Lib.hid hrm
          simp only [findV, Option.isSome]
          rw [hval]
          clear hval hrq hrn huv hfq
          obtain ⟨W11, hW11⟩ : ∃ W, W = w10.alloc (.cells #[.string nm, .string rt, .bool wb, .int .i64 sl, .int .i64 qu, .slice Au us.length cu] 41) := ⟨_, rfl⟩
          have hb11 : Below w10.heap.size w10 W11 := by rw [hW11]; exact below_one w10 _
          have hz11 : W11.heap[w10.heap.size]? = some (Obj.cells #[.string nm, .string rt, .bool wb, .int .i64 sl, .int .i64 qu, .slice Au us.length cu] 41 (0, 0)) := by rw [hW11]; exact heap_alloc_new w10 _
          obtain ⟨g11, hg11⟩ : ∃ g, g = w10.heap.size := ⟨_, rfl⟩
          rw [← hg11] at hz11
          have hb111 := below_from hb110 hb11
          have HB11 := Lib.hid hb111
          have HBW11 := Lib.hid (below_from HBW1.out hb111)
          have HZ11 := Lib.hid hz11
          obtain ⟨yc, -, -⟩ := HC.out W11 hb111
          clear hb10 hb110 hb11 hz11 hb111 hrm y0 v0 v1
          go_upto_region 18 with fail
          rw [← hW11, ← hg11]
          clear hW11 hg11
          go_wp2_with fail
          clear yc
          go_loopw [14, 82] (fun _ i wr => ∃ k : Nat, k ≤ q.length ∧ i = .int .i64 k ∧ Below W11.heap.size W11 wr ∧ findQ q n0 = findQ (q.drop k) n0) (fun _ i _ => q.length - (intOf i).toNat)
          case atStart => exact ⟨0, by omega, rfl, Below.refl _ _, rfl⟩
          case round =>
            obtain ⟨k, hk, rfl, hbk, hfk⟩ := hrel
            obtain ⟨wk, rfl⟩ : ∃ W, W = wr := ⟨wr, rfl⟩
            have HBK := Lib.hid hbk
            have HFK := Lib.hid hfk
            clear hfk
            by_cases hlt : k < q.length
            · obtain ⟨c2, b2, off2, nm2, rt2, wb2, sl2, qu2, us2, Au2, cu2, hm, e2, ⟨x0, x1, x2, x3, x4, x5⟩, hu2⟩ := HQ.out.one k hlt
              injection e2 with e2 hz1 hz2
              clear hz1
              subst e2 hz2
              have hbx := below_from HBW11.out hbk
              replace x0 := cell_below hbx x0
              replace x1 := cell_below hbx x1
              replace x2 := cell_below hbx x2
              replace x3 := cell_below hbx x3
              replace x4 := cell_below hbx x4
              replace x5 := cell_below hbx x5
              obtain ⟨W2, hW2⟩ : ∃ W, W = wk.alloc (.cells #[.string nm2, .string rt2, .bool wb2, .int .i64 sl2, .int .i64 qu2, .slice Au2 us2.length cu2] 41) := ⟨_, rfl⟩
              have hm2 : W2.heap[wk.heap.size]? = some (Obj.cells #[.string nm2, .string rt2, .bool wb2, .int .i64 sl2, .int .i64 qu2, .slice Au2 us2.length cu2] 41 (0, 0)) := by rw [hW2]; exact heap_alloc_new wk _
              have hb2 : Below wk.heap.size wk W2 := by rw [hW2]; exact below_one wk _
              obtain ⟨g, hg⟩ : ∃ g, g = wk.heap.size := ⟨_, rfl⟩
              rw [← hg] at hm2
              have m0 : W2.cell? ⟨g, 0, none⟩ = some (.string nm2) := by rw [cell_of_row _ _ 0 _ _ _ hm2]; rfl
              have HB2 := Lib.hid (below_from hbk hb2)
              have HM2 := Lib.hid hm2
              have HMD := Lib.hid hm
              have HU2 := Lib.hid hu2
              obtain ⟨-, v0, v1⟩ := HC.out W2 (below_from HB11.out (below_from hbk hb2))
              clear hm2 hb2 hbk hbx hm hu2
              go_upto_region 21 with fail
              rw [← hW2, ← hg]
              clear hW2 hg x0 x1 x2 x3 x4 x5
              by_cases e0 : nm2 = n0
              · have hrk : r = q[k] := by
                  have := findQ_hit hlt (by rw [HMD.out]; exact e0) HFK.out
                  rw [HFQ.out] at this
                  injection this
                have hme : (⟨nm2, rt2, wb2, sl2, qu2, us2⟩ : ModC) = ⟨nm, rt, wb, sl, qu, us⟩ := by rw [← HMD.out, ← hrk, HR.out]
                injection hme with d0 d1 d2 d3 d4 d5
                subst d0 d1 d2 d3 d4 d5
                have be := eq_beq e0
                have hus : us2.length ≤ 100000 := by
                  have := HUZ.out _ (List.getElem_mem hlt)
                  rw [HMD.out] at this
                  simp only at this
                  omega
                have hz := block_below HZ11.out HB2.out
                have z0 : W2.cell? ⟨g11, 0, none⟩ = some (.string nm2) := by rw [cell_of_row _ _ 0 _ _ _ hz]; rfl
                have z1 : W2.cell? ⟨g11, 1, none⟩ = some (.string rt2) := by rw [cell_of_row _ _ 1 _ _ _ hz]; rfl
                have z2 : W2.cell? ⟨g11, 2, none⟩ = some (.bool wb2) := by rw [cell_of_row _ _ 2 _ _ _ hz]; rfl
                have z3 : W2.cell? ⟨g11, 3, none⟩ = some (.int .i64 sl2) := by rw [cell_of_row _ _ 3 _ _ _ hz]; rfl
                have z4 : W2.cell? ⟨g11, 4, none⟩ = some (.int .i64 qu2) := by rw [cell_of_row _ _ 4 _ _ _ hz]; rfl
                have z5 : W2.cell? ⟨g11, 5, none⟩ = some (.slice Au us2.length cu) := by rw [cell_of_row _ _ 5 _ _ _ hz]; rfl
                have HSX := Lib.hid (secret_any ⟨⟨nm2, rt2, wb2, sl2, qu2, us2⟩, .slice Au us2.length cu⟩ n1 W2 hus (RowIn.below HUR.out (below_from HBW11.out HB2.out)))
                have HZ2 := Lib.hid hz
                clear hz hrk e0
                go_wp2_with fail
                refine HSX.out.mono ?_
                rintro e w13 ⟨rfl, hb13⟩
                have HZ13 := Lib.hid (block_below HZ2.out hb13)
                have HM13 := Lib.hid (block_below HM2.out hb13)
                have HB13 := Lib.hid (below_from HB11.out (below_from HB2.out hb13))
                have HBW13 := Lib.hid (below_from HBW1.out HB13.out)
                have m5 : w13.cell? ⟨g, 5, none⟩ = some (.slice Au2 us2.length cu2) := by rw [cell_of_row _ _ 5 _ _ _ HM13.out]; rfl
                clear hb13 z0 z1 z2 z3 z4 z5 m0 v0 v1 be
                rcases hsc : secretC us2 n1 with _ | sv
                all_goals have HSC := Lib.hid hsc
                all_goals clear hsc
                · -- none
                  simp only [secV]
                  go_wp2_with fail
                  clear m5
                  go_loopw [18, 101] (fun _ i wr => ∃ j : Nat, j ≤ us2.length ∧ i = .int .i64 j ∧ Below w13.heap.size w13 wr ∧ secretC us2 n1 = secretC (us2.drop j) n1) (fun _ i _ => us2.length - (intOf i).toNat)
                  case atStart => exact ⟨0, by omega, rfl, Below.refl _ _, rfl⟩
                  case round =>
                  obtain ⟨j, hj, rfl, hbj, hfj⟩ := hrel
                  obtain ⟨wj, rfl⟩ : ∃ W, W = wr := ⟨wr, rfl⟩
                  have HBJ := Lib.hid hbj
                  have HFJ := Lib.hid hfj
                  clear hfj
                  by_cases hjl : j < us2.length
                  · obtain ⟨A4, c4, e4, _, hc4⟩ := UsersIn.at_ (RowIn.below HU2.out (below_from HBW13.out hbj))
                    injection e4 with e4 hz3 hz4
                    clear hz3
                    subst e4 hz4
                    obtain ⟨b4, o4, rfl, x0, x1⟩ := hc4 j hjl
                    obtain ⟨⟨u0, u1⟩, hu01⟩ : ∃ x, x = us2[j] := ⟨_, rfl⟩
                    have HU01 : Hid ((u0, u1).2 = us2[j].2) := Lib.hid (congrArg Prod.snd hu01)
                    rw [← hu01] at x0 x1
                    simp only at x0 x1
                    have e00 : us2[j].1 = u0 := (congrArg Prod.fst hu01).symm
                    obtain ⟨W15, hW15⟩ : ∃ W, W = wj.alloc (.cells #[.string u0, .string u1] 54) := ⟨_, rfl⟩
                    have hm15 : W15.heap[wj.heap.size]? = some (Obj.cells #[.string u0, .string u1] 54 (0, 0)) := by rw [hW15]; exact heap_alloc_new wj _
                    have hb15 : Below wj.heap.size wj W15 := by rw [hW15]; exact below_one wj _
                    obtain ⟨g15, hg15⟩ : ∃ g, g = wj.heap.size := ⟨_, rfl⟩
                    rw [← hg15] at hm15
                    have p0 : W15.cell? ⟨g15, 0, none⟩ = some (.string u0) := by rw [cell_of_row _ _ 0 _ _ _ hm15]; rfl
                    have p1 : W15.cell? ⟨g15, 1, none⟩ = some (.string u1) := by rw [cell_of_row _ _ 1 _ _ _ hm15]; rfl
                    have HB15 := Lib.hid (below_from hbj hb15)
                    obtain ⟨-, -, v1⟩ := HC.out W15 (below_from HB13.out (below_from hbj hb15))
                    clear hm15 hb15 hbj hc4 hu01
                    go_upto_region 26 with fail
                    rw [← hW15, ← hg15]
                    clear hW15 hg15 x0 x1
                    by_cases e1' : u0 = n1
                    · have e1 := e00.trans e1'
                      exfalso
                      have := secretC_hit hjl e1 HFJ.out
                      rw [HSC.out] at this
                      cases this
                    · have be1 := ne_beq e1'
                      have HFN := Lib.hid (secretC_miss hjl (by rw [e00]; exact e1') HFJ.out)
                      clear e1' e00
                      go_wp2_with fail
                      go_roundw
                      case rel => exact ⟨j + 1, by omega, by go_num, HB15.out, HFN.out⟩
                      case measure => simp [intOf]; omega
                  · obtain rfl : j = us2.length := by omega
                    clear hbj
                    have z1 : wj.cell? ⟨g11, 1, none⟩ = some (.string rt2) := by rw [cell_of_row _ _ 1 _ _ _ (block_below HZ13.out HBJ.out)]; rfl
                    have k1 : wj.cell? ⟨g, 1, none⟩ = some (.string rt2) := by rw [cell_of_row _ _ 1 _ _ _ (block_below HM13.out HBJ.out)]; rfl
                    go_wp2_with fail
                    go_ret
                    exact ⟨rfl, below_from HBW13.out HBJ.out⟩
                · -- some
                  simp only [secV]
                  go_wp2_with fail
                  clear m5
                  go_loopw [18, 101] (fun _ i wr => ∃ j : Nat, j ≤ us2.length ∧ i = .int .i64 j ∧ Below w13.heap.size w13 wr ∧ secretC us2 n1 = secretC (us2.drop j) n1) (fun _ i _ => us2.length - (intOf i).toNat)
                  case atStart => exact ⟨0, by omega, rfl, Below.refl _ _, rfl⟩
                  case round =>
                  obtain ⟨j, hj, rfl, hbj, hfj⟩ := hrel
                  obtain ⟨wj, rfl⟩ : ∃ W, W = wr := ⟨wr, rfl⟩
                  have HBJ := Lib.hid hbj
                  have HFJ := Lib.hid hfj
                  clear hfj
                  by_cases hjl : j < us2.length
                  · obtain ⟨A4, c4, e4, _, hc4⟩ := UsersIn.at_ (RowIn.below HU2.out (below_from HBW13.out hbj))
                    injection e4 with e4 hz3 hz4
                    clear hz3
                    subst e4 hz4
                    obtain ⟨b4, o4, rfl, x0, x1⟩ := hc4 j hjl
                    obtain ⟨⟨u0, u1⟩, hu01⟩ : ∃ x, x = us2[j] := ⟨_, rfl⟩
                    have HU01 : Hid ((u0, u1).2 = us2[j].2) := Lib.hid (congrArg Prod.snd hu01)
                    rw [← hu01] at x0 x1
                    simp only at x0 x1
                    have e00 : us2[j].1 = u0 := (congrArg Prod.fst hu01).symm
                    obtain ⟨W15, hW15⟩ : ∃ W, W = wj.alloc (.cells #[.string u0, .string u1] 54) := ⟨_, rfl⟩
                    have hm15 : W15.heap[wj.heap.size]? = some (Obj.cells #[.string u0, .string u1] 54 (0, 0)) := by rw [hW15]; exact heap_alloc_new wj _
                    have hb15 : Below wj.heap.size wj W15 := by rw [hW15]; exact below_one wj _
                    obtain ⟨g15, hg15⟩ : ∃ g, g = wj.heap.size := ⟨_, rfl⟩
                    rw [← hg15] at hm15
                    have p0 : W15.cell? ⟨g15, 0, none⟩ = some (.string u0) := by rw [cell_of_row _ _ 0 _ _ _ hm15]; rfl
                    have p1 : W15.cell? ⟨g15, 1, none⟩ = some (.string u1) := by rw [cell_of_row _ _ 1 _ _ _ hm15]; rfl
                    have HB15 := Lib.hid (below_from hbj hb15)
                    obtain ⟨-, -, v1⟩ := HC.out W15 (below_from HB13.out (below_from hbj hb15))
                    clear hm15 hb15 hbj hc4 hu01
                    go_upto_region 26 with fail
                    rw [← hW15, ← hg15]
                    clear hW15 hg15 x0 x1
                    by_cases e1' : u0 = n1
                    · have e1 := e00.trans e1'
                      have hs1 : sv = u1 := by
                        have := secretC_hit hjl e1 HFJ.out
                        rw [HSC.out] at this
                        injection this with this
                        rw [this, ← HU01.out]
                      subst hs1
                      have be1 := eq_beq e1'
                      have z1 : W15.cell? ⟨g11, 1, none⟩ = some (.string rt2) := by rw [cell_of_row _ _ 1 _ _ _ (block_below HZ13.out HB15.out)]; rfl
                      have k1 : W15.cell? ⟨g, 1, none⟩ = some (.string rt2) := by rw [cell_of_row _ _ 1 _ _ _ (block_below HM13.out HB15.out)]; rfl
                      clear e1 e1'
                      go_wp2_with fail
                      go_ret
                      exact ⟨rfl, below_from HBW13.out HB15.out⟩
                    · have be1 := ne_beq e1'
                      have HFN := Lib.hid (secretC_miss hjl (by rw [e00]; exact e1') HFJ.out)
                      clear e1' e00
                      go_wp2_with fail
                      go_roundw
                      case rel => exact ⟨j + 1, by omega, by go_num, HB15.out, HFN.out⟩
                      case measure => simp [intOf]; omega
                  · obtain rfl : j = us2.length := by omega
                    clear hbj
                    exfalso
                    rw [List.drop_length] at HFJ
                    have := HFJ.out
                    rw [HSC.out] at this
                    cases this
              · have be := ne_beq e0
                have HFN := Lib.hid (findQ_miss hlt (by rw [HMD.out]; exact e0) HFK.out)
                clear e0
                go_wp2_with fail
                go_roundw
                case rel => exact ⟨k + 1, by omega, by go_num, HB2.out, HFN.out⟩
                case measure => simp [intOf]; omega
            · exfalso
              obtain rfl : k = q.length := by omega
              rw [List.drop_length] at HFK
              have := HFK.out
              rw [HFQ.out] at this
              cases this
theorem confFinds_walk (a0 : Array Value) (y0 : List (ByteArray × ByteArray × Bool × Int × Int × List (ByteArray × ByteArray))) (a1 : Array Value) (y1 : ByteArray × ByteArray) (w : World) (h0 : (Kd.slice 41 kMd).K w y0 a0.toList) (h1 : (Kd.pair Kd.string Kd.string).K w y1 a1.toList) (hg : EnvC w) :
    Calls Tryz.prog 4 #[.agg a0, .agg a1] w fun e w' => e = .returned (.bool true) ∧ Below w.heap.size w w' := by
  obtain ⟨A, c, e0, hc, hr⟩ := h0
  obtain ⟨q, hql, _, hm⟩ := mods_of hc hr
  obtain ⟨c0, c1, e1, k0, k1⟩ := h1
  replace k0 : c0 = [Value.string y1.1] := k0
  replace k1 : c1 = [Value.string y1.2] := k1
  subst k0 k1
  have f0 : a0 = #[.slice A q.length c] := by
    apply Array.ext'
    rw [e0, hql]
  have f1 : a1 = #[.string y1.1, .string y1.2] := by
    apply Array.ext'
    rw [e1]; rfl
  rw [← hql] at hm
  subst f0 f1
  exact finds_any A c q y1.1 y1.2 w hm hg
end Go.Proofs.YtddnfooachibiaaGreatDoor

namespace Go.Proofs.YtddnfooachibiaaGreatDoor
open Go.ChangeShapes Go.WideShapes Go.ChangeAt Go.RowKit
open Go.ChangeMaps (open_string shut_string)
open Go.Proofs.YtddnfooachibiaaGreatDoorW.PrintWords (Kd ReadsRow)
set_option maxRecDepth 100000 in
theorem confFinds_lifted (os : Os) (started : os.Started) (H : Type) (enc : TypeId × Value → H) :
    ReturnsInHanded {} Tryz.checked os 4 .any (fun w args => (Rows.confFindsSpec.pre enc Tryz.prog Tryz.f4 Rows.confFindsRow.domain false w args ∧ laidMetH Tryz.prog laidC w) ∧ sizedMet enc Tryz.prog Tryz.f4 (OpenSpec.ofChange Rows.confFindsSpec) false w args) (Rows.confFindsSpec.post enc Tryz.prog Tryz.f4 false true false false) := by
  refine returns_and_shaped (C := Tryz.checked) (X := fun w _ => laidMetH Tryz.prog laidC w) (fun _ _ _ hh h => h.of_heap hh) own started (by kernel_rfl) Tryz.func4
    (ChangeSpec.witness_shaped (enc := enc) (C := Tryz.checked) (os := os) (X := fun w _ => laidMetH Tryz.prog laidC w) false (witC os) #[.agg #[.slice none 0 0], .agg #[.string ByteArray.empty, .string ByteArray.empty]] 8 (witC_os os) (witC_shaped os _) (by kernel_rfl) (by kernel_rfl) (by kernel_rfl) (witC_met os _)) ?_
  intro W base args ds gs before hval0 hW hcnd hsz0 hL hsh _
  have hsz : (DataW.weightsEach Tryz.prog (Tryz.f4.params.toList ++ Rows.confFindsSpec.plain.varTypes Tryz.prog) (ds ++ gs)).all (· ≤ reachBytes) = true := hsz0
  have hval : ∀ (j : Nat) t v, Tryz.f4.params[j]? = some t → args[j]? = some v → Value.okWide Tryz.prog W .any base t v := hval0
  have hW' := hW
  obtain ⟨p, q, hA0, hV, rfl, hfz, hnd⟩ := hW
  have hA : DataW.TrodAll enc Tryz.prog W 0 (fun _ => true) true Tryz.f4.params.toList args.toList ds p := hA0
  rw [Tryz.params4] at hA hval hsz
  obtain ⟨v0, vs0, d0, ds0, p0, q0, hargs, rfl, rfl, h0, r0⟩ := trodAll_cons hA
  obtain ⟨v1, vs1, d1, ds1, p1, q1, rfl, rfl, rfl, h1, r1⟩ := trodAll_cons r0
  obtain ⟨rfl, rfl, rfl⟩ := trodAll_nil r1
  obtain rfl : args = #[v0, v1] := by cases args; simp_all
  obtain ⟨rfl, rfl⟩ := trodVars_none hV
  obtain ⟨a0, rfl, sz0⟩ := okWide_struct Tryz.underlying25 (hval 0 25 v0 rfl rfl)
  have k0 := h0
  have lt0 : ∀ x ∈ p0, x.block < W.heap.size := by obtain ⟨m, hm⟩ := k0; exact DataW.trod_lt m _ _ _ hm
  obtain ⟨y0, w0, g0⟩ := arg_agg (d := (Kd.slice 41 (Kd.pair Kd.string (Kd.pair Kd.string (Kd.pair Kd.bool (Kd.pair (Kd.int .i64) (Kd.pair (Kd.int .i64) (Kd.slice 54 (Kd.pair Kd.string Kd.string))))))))) (opens_struct Tryz.underlying25 (by kernel_rfl) (opensF_last rfl (by kernel_rfl) (opens_slice Tryz.underlying23 (by kernel_rfl) (opens_struct Tryz.underlying41 (by kernel_rfl) (opensF_cons rfl (by kernel_rfl) (opens_string Tryz.underlying9) (opensF_cons rfl (by kernel_rfl) (opens_string Tryz.underlying9) (opensF_cons rfl (by kernel_rfl) (opens_bool Tryz.underlying4) (opensF_cons rfl (by kernel_rfl) (opens_int Tryz.underlying3) (opensF_cons rfl (by kernel_rfl) (opens_int Tryz.underlying3) (opensF_last rfl (by kernel_rfl) (opens_slice Tryz.underlying39 (by kernel_rfl) (opens_struct Tryz.underlying54 (by kernel_rfl) (opensF_cons rfl (by kernel_rfl) (opens_string Tryz.underlying9) (opensF_last rfl (by kernel_rfl) (opens_string Tryz.underlying9))))))))))))))) h0
  obtain ⟨a1, rfl, sz1⟩ := okWide_arr Tryz.underlying38 (hval 1 38 v1 rfl rfl)
  have k1 := h1
  have lt1 : ∀ x ∈ p1, x.block < W.heap.size := by obtain ⟨m, hm⟩ := k1; exact DataW.trod_lt m _ _ _ hm
  obtain ⟨y1, w1, g1⟩ := arg_agg (d := (Kd.pair Kd.string Kd.string)) (opens_arr2 Tryz.underlying38 (by kernel_rfl) (by kernel_rfl) (opens_string Tryz.underlying9)) h1
  clear hA0 hval0 hsz0 hsz
  refine (confFinds_walk a0 y0 a1 y1 W w0 w1 (envC_of_laid hL hsh)).mono fun e W' ⟨he, bel⟩ => ?_
  subst he
  exact ⟨_, rfl, _, _, _, [], _, [], hW', trodAll_mk1 (shut_bool Tryz.underlying4 _), (trodAll_cons_mk (Below.trod laidOut (by kernel_rfl) (of_decide_eq_true (by kernel_rfl)) k0 bel lt0) (trodAll_cons_mk (Below.trod laidOut (by kernel_rfl) (of_decide_eq_true (by kernel_rfl)) k1 bel lt1) trodAll_mk0)), rfl, bel.frame _, fun h => by cases h⟩
theorem confFinds_holds : Rows.ConfFindsSaid :=
  OpenClaim.holds_of_wide 4 Tryz.f4 rfl rfl rfl rfl rfl rfl rfl ⟨rfl, rfl, rfl, rfl, rfl⟩ rfl rfl rfl rfl rfl (by kernel_rfl) Tryz.func4 (by kernel_rfl)
    (of_decide_eq_true (by kernel_rfl)) (by unfold Func.isWrapper; first | (rw [if_pos (by decide +kernel)]; kernel_rfl) | (rw [if_neg (by decide +kernel)]; exact ⟨rfl, rfl⟩))
    (fun os started H enc _ => confFinds_lifted os started H enc)
theorem confFinds_card : Rows.ConfFindsCardSaid :=
  Claim7.holds_tied_plain_at .later [] [.data, .data, .data, .data, .handle, .sentinel, .sentinel, .pinned] true (true, "7b8443a463c5f55e62ab8a3865c3a1529c07887fc89f48a1587c2956179633cb") true
    confFinds_holds (fun _ h => by cases h) (by kernel_rfl) (fun _ h => by cases h) confFinds_row_tie rfl ⟨rfl, rfl⟩ (by kernel_rfl) rfl
    (fun f fn hf hfn => by
      obtain rfl : f = 4 := Option.some.inj ((show Tryz.prog.funcNamed "wharfinger/wharfingerlaw13.ConfFinds" = some 4 by kernel_rfl).symm.trans hf) |>.symm
      obtain rfl : fn = Tryz.f4 := (Option.some.inj (Tryz.func4.symm.trans hfn)).symm
      exact ⟨by kernel_rfl, fun j t ht => by
        rw [Tryz.params4] at ht
        have hm : t ∈ [25, 38] := by simpa using Array.mem_of_getElem? ht
        have hall : ([25, 38].all fun u => !Tryz.prog.wantsStandIn u) = true := by kernel_rfl
        exact (show Tryz.prog.wantsStandIn t = false by simpa using List.all_eq_true.1 hall t hm)⟩)
    (by kernel_rfl)
#print axioms confFinds_card
end Go.Proofs.YtddnfooachibiaaGreatDoor

