/-
  The law ConfParses, walked: the program's Parse and the reference's tell the same of any text.
-/
import Derived.Test.YtddnfooachibiaaGreatDoorConfLike
import Derived.Test.YtddnfooachibiaaGreatDoorConfRefP
set_option linter.unusedVariables false
set_option linter.unusedSimpArgs false
namespace Go.Proofs.YtddnfooachibiaaGreatDoor
open Go.RowKit Go.Maps Go.WideMaps Go.WideAt
/-- What both come to, of one text. -/
theorem parse_both {s : ByteArray} {w1 w2 w1' w2' : World} {e1 e2 : Ending} (h1 : ParsePost s w1 e1 w1') (h2 : RParsePost s w2 e2 w2') :
    (∃ t u p x, x ≠ 0 ∧ parseC s = (.fault p x, []) ∧ e1 = .returned (.tuple #[.agg #[.slice none 0 0], .iface t u]) ∧ ErrV w1' (.iface t u) (.fault p x) ∧ e2 = .returned (.tuple #[.slice none 0 0, .int .i64 x, .int .i64 p])) ∨
    (∃ A c q A2 c2 q2, parseC s = (.nil, q.map MRow.md) ∧ q.map MRow.md = q2.map RMRow.md ∧ e1 = .returned (.tuple #[.agg #[.slice A q.length c], .nilIface]) ∧ ModsIn w1' (.slice A q.length c) q ∧ e2 = .returned (.tuple #[.slice A2 q2.length c2, .int .i64 0, .int .i64 0]) ∧ RModsIn w2' (.slice A2 q2.length c2) q2) := by
  obtain ⟨_, ⟨t, u, g, p1, p2, p3, p4⟩ | ⟨cv, q, p1, p3, p4⟩⟩ := h1
  · obtain ⟨_, ⟨A, c, q, r1, _, _⟩ | ⟨p, x, r1, r2, r3⟩⟩ := h2
    · rw [r1] at p1
      injection p1 with p1 _
      exact absurd p1.symm p2
    · have r1' := r1
      rw [p1] at r1
      injection r1 with r1 _
      subst r1
      exact .inl ⟨t, u, p, x, r2, r1', p3, p4, r3⟩
  · obtain ⟨A, c, rfl, _⟩ := p4.row.slice
    obtain ⟨_, ⟨A2, c2, q2, r1, r2, r3⟩ | ⟨p, x, r1, _, _⟩⟩ := h2
    · have p1' := p1
      rw [r1] at p1
      injection p1 with _ p1
      exact .inr ⟨A, c, q, A2, c2, q2, p1', p1.symm, p3, p4, r2, r3⟩
    · rw [r1] at p1
      injection p1 with p1 _
      cases p1
theorem good_few {s : ByteArray} {q : List MRow} (h : parseC s = (.nil, q.map MRow.md)) : q.length ≤ 8 ∧ ∀ r ∈ q, r.md.us.length ≤ 8 := by
  obtain ⟨hg, h8, _, _⟩ := parse_good h
  exact ⟨by simpa using h8, fun r hr => (hg r.md (List.mem_map.2 ⟨r, hr, rfl⟩)).most⟩
set_option maxRecDepth 100000 in
set_option maxHeartbeats 2000000 in
theorem confParses_walk (s : ByteArray) (w : World) (hs : s.size ≤ 140737488351232) (hg : EnvC w) : Calls Tryz.prog 3 #[.string s] w fun e w' => e = .returned (.bool true) ∧ Below w.heap.size w w' := by
  have HH := Lib.hid (parses_any w hg)
  have HG := Lib.hid hg
  clear hg
  go_enter Tryz.func3, Tryz.ntmps3
  go_wp2_with fail
  refine HH.out.mono ?_
  rintro e w1 ⟨rfl, hb1⟩
  have HB1 := Lib.hid hb1
  have HP := Lib.hid (cparse_any s w1 hs (HG.out.below hb1))
  clear hb1
  by_cases hz : 9000 < s.size
  · have hzi : (9000 : Int) < s.size := by omega
    go_wp2_with fail
    go_ret
    exact ⟨rfl, HB1.out⟩
  · have hzi : ¬ (9000 : Int) < s.size := by omega
    have hzi2 : decide ((9000 : Int) < s.size) = false := decide_eq_false hzi
    go_wp2_with fail
    refine HP.out.mono ?_
    intro e w3 hp
    have hb3 := hp.1
    have hkey : (∃ A n c er, e = .returned (.tuple #[.agg #[.slice A n c], er])) := by
      obtain ⟨_, ⟨t, u, g, _, _, p3, _⟩ | ⟨cv, q, _, p3, p4⟩⟩ := hp
      · exact ⟨none, 0, 0, _, p3⟩
      · obtain ⟨A, c, e', _⟩ := p4.row.slice
        rw [e'] at p3
        exact ⟨A, _, c, _, p3⟩
    obtain ⟨A, n, c, er, rfl⟩ := hkey
    have hb4 := below_one w3 (.cells #[.slice A n c] 25)
    have hn4 := heap_alloc_new w3 (.cells #[.slice A n c] 25)
    have HB4 := Lib.hid (below_from HB1.out (below_from hb3 hb4))
    have HP4 := Lib.hid hp
    have HR := Lib.hid (rparse_any s (w3.alloc (.cells #[.slice A n c] 25)) hs)
    have HN4 := Lib.hid hn4
    have hb4' := Lib.hid hb4
    clear hp hb3 hb4 hn4
    go_wp2_with fail
    refine HR.out.mono ?_
    intro e w5 hr
    have hb5 := hr.1
    have HB5 := Lib.hid hb5
    have y0 : w5.cell? ⟨w3.heap.size, 0, none⟩ = some (.slice A n c) := by rw [cell_of_row _ _ 0 _ _ _ (block_below HN4.out hb5)]; rfl
    rcases parse_both HP4.out hr with ⟨t, u, p, x, hx0, hpc, e1, hev, rfl⟩ | ⟨A1, c1, q, A2, c2, q2, hpc, hqq, e1, hm, rfl, hrm⟩
    · injection e1 with e1
      injection e1 with e1
      simp only [Array.mk.injEq, List.cons.injEq, Value.agg.injEq, Value.slice.injEq, and_true] at e1
      obtain ⟨⟨rfl, rfl, rfl⟩, rfl⟩ := e1
      have bx0 : (x == 0) = false := by simpa using hx0
      have bx1 : (x != 0) = true := by simpa using hx0
      have HEV := Lib.hid ((hev.below hb4'.out).below hb5)
      have HNU := Lib.hid (number (.iface t u) (.fault p x) w5 HEV.out (HG.out.below (below_from HB4.out hb5)).env)
      clear hr hb5 hev
      go_wp2_with fail
      refine HNU.out.mono ?_
      rintro e w6 ⟨rfl, hb6⟩
      have HB6 := Lib.hid hb6
      have HPL := Lib.hid (place (.iface t u) (.fault p x) w6 (HEV.out.below hb6) (HG.out.below (below_from HB4.out (below_from HB5.out hb6))).env)
      simp only [GErr.num]
      replace y0 := cell_below hb6 y0
      clear hb6
      go_wp2_with fail
      refine HPL.out.mono ?_
      rintro e w7 ⟨rfl, hb7⟩
      have HB7 := Lib.hid hb7
      simp only [GErr.place]
      replace y0 := cell_below hb7 y0
      have HL := Lib.hid (like_any (.slice none 0 0) [] none 0 [] w7 (by simp) (fun r h => by cases h) ⟨RowIn.nil _ _ _, fun r h => by cases h⟩ ⟨RowIn.nil _ _ _, (fun r h => by cases h), (fun r h => by cases h)⟩ rfl)
      clear hb7
      go_wp2_with fail
      refine HL.out.mono ?_
      rintro e w8 ⟨rfl, hb8⟩
      have HB8 := Lib.hid hb8
      clear hb8
      go_wp2_with fail
      go_ret
      exact ⟨rfl, below_from HB4.out (below_from HB5.out (below_from HB6.out (below_from HB7.out HB8.out)))⟩
    · injection e1 with e1
      injection e1 with e1
      simp only [Array.mk.injEq, List.cons.injEq, Value.agg.injEq, Value.slice.injEq, and_true] at e1
      obtain ⟨⟨rfl, rfl, rfl⟩, rfl⟩ := e1
      obtain ⟨h8, hu8⟩ := good_few hpc
      have HM := Lib.hid ((hm.below hb4'.out).below hb5)
      have HRM := Lib.hid hrm
      have HQQ := Lib.hid hqq
      have HU8 := Lib.hid hu8
      have hq2 : q2.length = q.length := by
        have := congrArg List.length hqq
        simpa using this.symm
      have HNU := Lib.hid (number .nilIface .nil w5 rfl (HG.out.below (below_from HB4.out hb5)).env)
      clear hr hb5 hm hrm hqq hu8 hpc
      go_wp2_with fail
      refine HNU.out.mono ?_
      rintro e w6 ⟨rfl, hb6⟩
      have HB6 := Lib.hid hb6
      simp only [GErr.num]
      replace y0 := cell_below hb6 y0
      have HL := Lib.hid (like_any _ q A2 c2 q2 w6 (by omega) (fun r h => Nat.le_trans (HU8.out r h) (by decide)) (HM.out.below hb6) (HRM.out.below hb6) HQQ.out)
      rw [hq2] at HL
      clear hb6
      go_wp2_with fail
      refine HL.out.mono ?_
      rintro e w8 ⟨rfl, hb8⟩
      have HB8 := Lib.hid hb8
      clear hb8
      go_wp2_with fail
      go_ret
      exact ⟨rfl, below_from HB4.out (below_from HB5.out (below_from HB6.out HB8.out))⟩
end Go.Proofs.YtddnfooachibiaaGreatDoor
