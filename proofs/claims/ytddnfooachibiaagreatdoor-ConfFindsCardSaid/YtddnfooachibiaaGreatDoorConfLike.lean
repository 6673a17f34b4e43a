/-
  The law's like: modules that are alike.
-/
import Derived.Test.YtddnfooachibiaaGreatDoorConfRefC
import Derived.Test.YtddnfooachibiaaGreatDoorConfHead
set_option linter.unusedVariables false
set_option linter.unusedSimpArgs false
namespace Go.Proofs.YtddnfooachibiaaGreatDoor
open Go.RowKit Go.Maps Go.WideMaps Go.WideAt
/-- One module, all of it. -/
theorem ModsIn.one {w : World} {v : Value} {q : List MRow} (h : ModsIn w v q) (k : Nat) (hk : k < q.length) : ∃ c b off nm rt wb sl qu us Au cu, q[k].md = ⟨nm, rt, wb, sl, qu, us⟩ ∧ v = .slice (some ⟨b, off, none⟩) q.length c ∧
    (w.cell? ⟨b, off + k * 6, none⟩ = some (.string nm) ∧ w.cell? ⟨b, off + k * 6 + 1, none⟩ = some (.string rt) ∧ w.cell? ⟨b, off + k * 6 + 2, none⟩ = some (.bool wb) ∧ w.cell? ⟨b, off + k * 6 + 3, none⟩ = some (.int .i64 sl) ∧ w.cell? ⟨b, off + k * 6 + 4, none⟩ = some (.int .i64 qu) ∧ w.cell? ⟨b, off + k * 6 + 5, none⟩ = some (.slice Au us.length cu)) ∧ UsersIn w (.slice Au us.length cu) us := by
  obtain ⟨A, c, rfl, _, hcell⟩ := h.at_
  obtain ⟨b, off, rfl, x0, x1, x2, x3, x4, x5⟩ := hcell k hk
  have hu := h.us _ (List.getElem_mem hk)
  obtain ⟨Au, cu, e, _⟩ := hu.slice
  rw [e] at hu x5
  exact ⟨c, b, off, q[k].md.name, q[k].md.root, q[k].md.wr, q[k].md.sl, q[k].md.qu, q[k].md.us, Au, cu, rfl, rfl, ⟨x0, x1, x2, x3, x4, x5⟩, hu⟩
theorem RModsIn.one {w : World} {v : Value} {q : List RMRow} (h : RModsIn w v q) (k : Nat) (hk : k < q.length) {nm rt : ByteArray} {wb : Bool} {sl qu : Int} {us : List (ByteArray × ByteArray)} (hm : q[k].md = ⟨nm, rt, wb, sl, qu, us⟩) : ∃ c b off Au cu As ls cs, v = .slice (some ⟨b, off, none⟩) q.length c ∧
    (w.cell? ⟨b, off + k * 7, none⟩ = some (.string nm) ∧ w.cell? ⟨b, off + k * 7 + 1, none⟩ = some (.string rt) ∧ w.cell? ⟨b, off + k * 7 + 2, none⟩ = some (.bool wb) ∧ w.cell? ⟨b, off + k * 7 + 3, none⟩ = some (.int .i64 sl) ∧ w.cell? ⟨b, off + k * 7 + 4, none⟩ = some (.int .i64 qu) ∧ w.cell? ⟨b, off + k * 7 + 5, none⟩ = some (.slice Au us.length cu) ∧ w.cell? ⟨b, off + k * 7 + 6, none⟩ = some (.slice As ls cs)) ∧ UsersIn w (.slice Au us.length cu) us := by
  obtain ⟨A, c, rfl, _, hcell⟩ := h.at_
  obtain ⟨b, off, rfl, x0, x1, x2, x3, x4, x5, x6⟩ := hcell k hk
  have hu := h.us _ (List.getElem_mem hk)
  obtain ⟨Au, cu, e, _⟩ := hu.slice
  obtain ⟨As, cs, e2, _⟩ := (h.seen _ (List.getElem_mem hk)).slice
  rw [e] at hu x5
  rw [e2] at x6
  rw [hm] at x0 x1 x2 x3 x4 x5 hu
  exact ⟨c, b, off, Au, cu, As, _, cs, rfl, ⟨x0, x1, x2, x3, x4, x5, x6⟩, hu⟩
set_option maxRecDepth 100000 in
set_option maxHeartbeats 2000000 in
theorem like_any (v : Value) (q : List MRow) (A : Option Addr) (c : Nat) (p : List RMRow) (w : World) (hlq : q.length ≤ 100000) (hul : ∀ r ∈ q, r.md.us.length ≤ 100000) (hq : ModsIn w v q) (hp : RModsIn w (.slice A p.length c) p) (he : q.map MRow.md = p.map RMRow.md) :
    Calls Tryz.prog 14 #[.agg #[v], .slice A p.length c] w fun e w' => e = .returned (.bool true) ∧ Below w.heap.size w w' := by
  have hpl : p.length = q.length := by
    have := congrArg List.length he
    simpa using this.symm
  have HE : Hid (∀ k (h : k < q.length) (h2 : k < p.length), p[k].md = q[k].md) := Lib.hid (fun k h h2 => by
    have := List.getElem_of_eq he (i := k) (by simpa using h)
    simpa using this.symm)
  have hb0 := below_one w (.cells #[v] 25)
  have HQ := Lib.hid (hq.below hb0)
  have HP := Lib.hid (hp.below hb0)
  have HUL := Lib.hid hul
  obtain ⟨Aq, cq, rfl, hcq⟩ := RowIn.slice hq.row
  rw [hpl] at HP ⊢
  have hn0 := heap_alloc_new w (.cells #[.slice Aq q.length cq] 25)
  have hs0 : (w.alloc (.cells #[.slice Aq q.length cq] 25)).heap.size = w.heap.size + 1 := by simp
  have HB0 := Lib.hid hb0
  have bn : ((q.length : Int) != q.length) = false := by simp
  clear hq hp he hul
  go_enter Tryz.func14, Tryz.ntmps14
  go_wp2_with fail
  generalize hW0 : w.alloc (.cells #[.slice Aq q.length cq] 25) = W0 at *
  clear hb0 hn0 hW0
  go_loopw [19] (fun i wr => ∃ k : Nat, k ≤ q.length ∧ i = .int .i64 k ∧ Below W0.heap.size W0 wr) (fun i _ => q.length - (intOf i).toNat)
  case atStart => exact ⟨0, by omega, rfl, Below.refl _ _⟩
  case round =>
    obtain ⟨k, hk, rfl, hbw⟩ := hrel
    obtain ⟨wk, rfl⟩ : ∃ W, W = wr := ⟨wr, rfl⟩
    have HB := Lib.hid hbw
    have hszk := hbw.size
    by_cases hlt : k < q.length
    · obtain ⟨c2, b, off, nm, rt, wb, sl, qu, us, Au, cu, hm, e2, ⟨x0, x1, x2, x3, x4, x5⟩, hu⟩ := (HQ.out.below hbw).one k hlt
      injection e2 with e2 hz1 e3
      clear hz1
      subst e2 e3
      have hpk : k < p.length := by omega
      have hus : us.length ≤ 100000 := by
        have := HUL.out _ (List.getElem_mem hlt)
        rw [hm] at this
        exact this
      have hbm := below_one wk (.cells #[.string nm, .string rt, .bool wb, .int .i64 sl, .int .i64 qu, .slice Au us.length cu] 41)
      obtain ⟨c3, b3, off3, Ap, cp, As, ls, cs, e3, ⟨z0, z1, z2, z3, z4, z5, z6⟩, hup⟩ := RModsIn.one (HP.out.below hbw) k hpk ((HE.out k hlt hpk).trans hm)
      injection e3 with e3 hz2 e4
      clear hz2
      subst e3 e4
      have hbx := below_one (wk.alloc (.cells #[.string nm, .string rt, .bool wb, .int .i64 sl, .int .i64 qu, .slice Au us.length cu] 41)) (.cells #[.string nm, .string rt, .bool wb, .int .i64 sl, .int .i64 qu, .slice Ap us.length cp, .slice As ls cs] 45)
      have hn1 := block_below (heap_alloc_new wk (.cells #[.string nm, .string rt, .bool wb, .int .i64 sl, .int .i64 qu, .slice Au us.length cu] 41)) hbx
      have hn2 := heap_alloc_new (wk.alloc (.cells #[.string nm, .string rt, .bool wb, .int .i64 sl, .int .i64 qu, .slice Au us.length cu] 41)) (.cells #[.string nm, .string rt, .bool wb, .int .i64 sl, .int .i64 qu, .slice Ap us.length cp, .slice As ls cs] 45)
      have hs1 : (wk.alloc (.cells #[.string nm, .string rt, .bool wb, .int .i64 sl, .int .i64 qu, .slice Au us.length cu] 41)).heap.size = wk.heap.size + 1 := by simp
      rw [hs1] at hn2
      have HU := Lib.hid ((RowIn.below (RowIn.below hu hbm) hbx))
      have HUP := Lib.hid ((RowIn.below (RowIn.below hup hbm) hbx))
      have HB2 := Lib.hid (below_from hbm hbx)
      replace z0 := cell_below hbm z0
      replace z1 := cell_below hbm z1
      replace z2 := cell_below hbm z2
      replace z3 := cell_below hbm z3
      replace z4 := cell_below hbm z4
      replace z5 := cell_below hbm z5
      replace z6 := cell_below hbm z6
      have HN1 := Lib.hid hn1
      have HN2 := Lib.hid hn2
      clear hu hup hm hbm hbx hn1 hn2 hs1
      go_wp2_with fail
      generalize hW2 : (wk.alloc (.cells #[.string nm, .string rt, .bool wb, .int .i64 sl, .int .i64 qu, .slice Au us.length cu] 41)).alloc (.cells #[.string nm, .string rt, .bool wb, .int .i64 sl, .int .i64 qu, .slice Ap us.length cp, .slice As ls cs] 45) = W2 at *
      clear x0 x1 x2 x3 x4 x5 z0 z1 z2 z3 z4 z5 z6 hW2
      go_loopw [73] (fun i wr => ∃ j : Nat, j ≤ us.length ∧ i = .int .i64 j ∧ Below W2.heap.size W2 wr) (fun i _ => us.length - (intOf i).toNat)
      case atStart => exact ⟨0, by omega, rfl, Below.refl _ _⟩
      case round =>
        obtain ⟨j, hj, rfl, hbj⟩ := hrel
        obtain ⟨wj, rfl⟩ : ∃ W, W = wr := ⟨wr, rfl⟩
        have HBJ := Lib.hid hbj
        by_cases hjl : j < us.length
        · obtain ⟨A4, c4, e4, _, hc4⟩ := UsersIn.at_ (RowIn.below HU.out hbj)
          injection e4 with e4 hz3 hz4
          clear hz3
          subst e4
          obtain ⟨b4, o4, rfl, x0, x1⟩ := hc4 j hjl
          obtain ⟨A5, c5, e5, _, hc5⟩ := UsersIn.at_ (RowIn.below HUP.out hbj)
          injection e5 with e5 hz5 hz6
          clear hz5
          subst e5
          obtain ⟨b5, o5, rfl, y0, y1⟩ := hc5 j hjl
          obtain ⟨u0, hu0⟩ : ∃ x, x = us[j].1 := ⟨_, rfl⟩
          obtain ⟨u1, hu1⟩ : ∃ x, x = us[j].2 := ⟨_, rfl⟩
          rw [← hu0] at x0 y0
          rw [← hu1] at x1 y1
          have hbu := below_one wj (.cells #[.string u0, .string u1] 54)
          replace y0 := cell_below hbu y0
          replace y1 := cell_below hbu y1
          have z5 : (wj.alloc (.cells #[.string u0, .string u1] 54)).cell? ⟨wk.heap.size + 1, 5, none⟩ = some (.slice (some ⟨b5, o5, none⟩) us.length cp) := by rw [cell_of_row _ _ 5 _ _ _ (block_below (block_below HN2.out hbj) hbu)]; rfl
          have HBN := Lib.hid (fun n => below_drewN (below_from hbj hbu) n)
          clear hu0 hu1 hc4 hc5 hbu hbj
          go_wp2_with fail
          go_quiet (fail)
          go_wp2_with fail
          go_roundw
          case rel => exact ⟨j + 1, by omega, by go_num, HBN.out _⟩
          case measure => simp [intOf]; omega
        · obtain rfl : j = us.length := by omega
          go_wp2_with fail
          go_roundw
          case rel => exact ⟨k + 1, by omega, by go_num, below_from HB.out (below_from HB2.out HBJ.out)⟩
          case measure => simp [intOf]; omega
    · obtain rfl : k = q.length := by omega
      go_wp2_with fail
      go_ret
      exact ⟨rfl, below_from HB0.out HB.out⟩
end Go.Proofs.YtddnfooachibiaaGreatDoor
