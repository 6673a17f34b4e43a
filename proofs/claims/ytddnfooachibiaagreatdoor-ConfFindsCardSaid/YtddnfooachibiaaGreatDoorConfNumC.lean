/-
  conf.number, by strconv.Atoi and strconv.Itoa.
-/
import Derived.Test.YtddnfooachibiaaGreatDoorConfFind
import Derived.Test.YtddnfooachibiaaGreatDoorShelfB
import Derived.Lib.QuietBelow
set_option linter.unusedVariables false
set_option linter.unusedSimpArgs false
namespace Go.Proofs.YtddnfooachibiaaGreatDoor
open Go.RowKit Go.Maps Go.WideMaps Go.WideAt
theorem tab_below {w w' : World} (hb : Below w.heap.size w w') (h : Lib.TabIs Tryz.prog w "internal/strconv.uint64pow10" .u64 Lib.pow10Tab) : Lib.TabIs Tryz.prog w' "internal/strconv.uint64pow10" .u64 Lib.pow10Tab := by
  have hg : Tryz.prog.globalNamed "internal/strconv.uint64pow10" = some 4 := by kernel_rfl
  have hc := World.var?_cell hg h 0
  exact var?_below hb hg (World.block_lt_of_cell? w _ (hc.trans rfl)) h
/-- What the listed variables give. -/
structure EnvC (w : World) : Prop where
  env : Env w
  tab : Lib.TabIs Tryz.prog w "internal/strconv.uint64pow10" .u64 Lib.pow10Tab
  syn : ∃ t p, w.cell? ⟨5, 0, none⟩ = some (.iface t p)
  rng : ∃ t p, w.cell? ⟨6, 0, none⟩ = some (.iface t p)
theorem EnvC.below {w w' : World} (h : EnvC w) (hb : Below w.heap.size w w') : EnvC w' := by
  obtain ⟨t1, p1, h1⟩ := h.syn
  obtain ⟨t2, p2, h2⟩ := h.rng
  exact ⟨h.env.below hb, tab_below hb h.tab, ⟨t1, p1, cell_below hb h1⟩, ⟨t2, p2, cell_below hb h2⟩⟩
theorem itoa_any (n : Int) (w : World) (h0 : -9223372036854775808 ≤ n) (h1 : n ≤ 9223372036854775807) (hg : EnvC w) : Calls Tryz.prog 38 #[.int .i64 n] w fun e w' => e = .returned (.string (bA (Lib.itoa n))) ∧ Below w.heap.size w w' := by
  refine (Tryz.strconv_Itoa n h0 h1 w hg.tab).mono ?_
  rintro e w' ⟨rfl, k, os, rfl⟩
  exact ⟨rfl, below_regrown w (w.drawn + k) os⟩
/-- strconv.Atoi. -/
def AtoiPost (s : ByteArray) (w : World) (e : Ending) (w' : World) : Prop := Below w.heap.size w w' ∧ ((∃ v, Lib.atoiAll s.data.toList = .ok v ∧ e = .returned (.tuple #[.int .i64 v, .nilIface])) ∨ ((∀ v, Lib.atoiAll s.data.toList ≠ .ok v) ∧ ∃ v t u, e = .returned (.tuple #[.int .i64 v, .iface t u])))
theorem atoi_any (s : ByteArray) (w : World) (hs : s.size ≤ 281474976710656) (hg : EnvC w) : Calls Tryz.prog 76 #[.string s] w (AtoiPost s w) := by
  cases h : Lib.atoiAll s.data.toList
  · rename_i v
    refine (Tryz.strconv_Atoi_ok s (by omega) v h w).mono ?_
    rintro e w' ⟨rfl, hw⟩
    refine ⟨?_, .inl ⟨v, h, rfl⟩⟩
    rcases hw with rfl | ⟨t, rfl⟩
    · exact Below.refl _ _
    · exact Lib.bytesWorld_below _ _ _
  · obtain ⟨t, p, hv⟩ := hg.syn
    refine (Any.strconv_Atoi_syntax Tryz.laysC172 s hs h _ w hv (.inr ⟨t, p, rfl⟩)).mono ?_
    rintro e w' ⟨N, rfl, _, _, hb⟩
    exact ⟨hb, .inr ⟨(fun v e => by rw [h] at e; cases e), _, _, _, rfl⟩⟩
  · obtain ⟨t, p, hv⟩ := hg.rng
    refine (Tryz.strconv_Atoi_range s hs h _ w hv (.inr ⟨t, p, rfl⟩)).mono ?_
    rintro e w' ⟨N, rfl, _, _, hb⟩
    exact ⟨hb, .inr ⟨(fun v e => by rw [h] at e; cases e), _, _, _, rfl⟩⟩
def NumPost (s : ByteArray) (lo hi : Int) (w : World) (e : Ending) (w' : World) : Prop := ∃ (n : Int), e = .returned (.tuple #[.int .i64 n, .bool (decide (lo ≤ numB s ∧ numB s ≤ hi))]) ∧ (lo ≤ numB s → numB s ≤ hi → n = numB s) ∧ Below w.heap.size w w'
theorem atoi_in {l : List UInt8} {v : Int} (h : Lib.atoiAll l = .ok v) : -9223372036854775808 ≤ v ∧ v ≤ 9223372036854775807 := by
  cases l with
  | nil => cases h
  | cons c r =>
    simp only [Lib.atoiAll] at h
    split at h
    · cases h
    · cases h
    · split at h
      · cases h
      · split at h
        · cases h
        · injection h with h
          split at h <;> omega
theorem bA_eq {l : List UInt8} {s : ByteArray} : bA l = s ↔ l = s.data.toList := ⟨fun h => by rw [← h]; rfl, fun h => by rw [h]; rfl⟩
set_option maxRecDepth 100000 in
set_option maxHeartbeats 1000000 in
/-- conf.number. -/
theorem cnumber_any (s : ByteArray) (lo hi : Int) (w : World) (h0 : 0 ≤ lo) (h1 : hi ≤ 262144) (hs : s.size ≤ 281474976710656) (hg : EnvC w) : Calls Tryz.prog 52 #[.string s, .int .i64 lo, .int .i64 hi] w (NumPost s lo hi w) := by
  have HA := Lib.hid (atoi_any s w hs hg)
  have HL := Lib.hid (number_law s lo hi h0 h1)
  have HG := Lib.hid hg
  clear hg
  go_enter Tryz.func52, Tryz.ntmps52
  go_wp2_with fail
  refine HA.out.mono ?_
  rintro e w1 ⟨hb1, ⟨v, hv, rfl⟩ | ⟨hno, v, t, u, rfl⟩⟩
  · obtain ⟨g1, g2⟩ := atoi_in hv
    have HB1 := Lib.hid hb1
    have HI := Lib.hid (itoa_any v w1 g1 g2 (HG.out.below hb1))
    have HV := Lib.hid hv
    clear hb1 hv
    go_wp2_with fail
    refine HI.out.mono ?_
    rintro e w2 ⟨rfl, hb2⟩
    have HB2 := Lib.hid (below_from HB1.out hb2)
    clear hb2
    by_cases e1 : bA (Lib.itoa v) = s
    · have b1 := eq_beq e1
      by_cases e2 : lo ≤ v
      · by_cases e3 : v ≤ hi
        · have HN : Hid (numB s = v) := Lib.hid (HL.out.1 v HV.out (bA_eq.1 e1) e2 e3)
          have HD : Hid (decide (lo ≤ numB s ∧ numB s ≤ hi) = true) := Lib.hid (decide_eq_true (by rw [HN.out]; exact ⟨e2, e3⟩))
          have b2 : decide (lo ≤ v) = true := decide_eq_true e2
          have b3 : decide (v ≤ hi) = true := decide_eq_true e3
          clear e1 e2 e3
          go_wp2_with fail
          go_ret2
          exact ⟨v, (by rw [HD.out]; rfl), fun _ _ => HN.out.symm, HB2.out⟩
        · have HX : Hid (¬ (lo ≤ numB s ∧ numB s ≤ hi)) := Lib.hid (fun ⟨x1, x2⟩ => by
            obtain ⟨y1, y2⟩ := HL.out.2 x1 x2
            rw [HV.out] at y1
            injection y1 with y1
            omega)
          have HD : Hid (decide (lo ≤ numB s ∧ numB s ≤ hi) = false) := Lib.hid (decide_eq_false HX.out)
          have b2 : decide (lo ≤ v) = true := decide_eq_true e2
          have b3 : decide (v ≤ hi) = false := decide_eq_false e3
          clear e1 e2 e3
          go_wp2_with fail
          go_ret2
          exact ⟨v, (by rw [HD.out]; rfl), fun x1 x2 => absurd ⟨x1, x2⟩ HX.out, HB2.out⟩
      · have HX : Hid (¬ (lo ≤ numB s ∧ numB s ≤ hi)) := Lib.hid (fun ⟨x1, x2⟩ => by
          obtain ⟨y1, y2⟩ := HL.out.2 x1 x2
          rw [HV.out] at y1
          injection y1 with y1
          omega)
        have HD : Hid (decide (lo ≤ numB s ∧ numB s ≤ hi) = false) := Lib.hid (decide_eq_false HX.out)
        have b2 : decide (lo ≤ v) = false := decide_eq_false e2
        clear e1 e2
        go_wp2_with fail
        go_ret2
        exact ⟨v, (by rw [HD.out]; rfl), fun x1 x2 => absurd ⟨x1, x2⟩ HX.out, HB2.out⟩
    · have HX : Hid (¬ (lo ≤ numB s ∧ numB s ≤ hi)) := Lib.hid (fun ⟨x1, x2⟩ => by
        obtain ⟨y1, y2⟩ := HL.out.2 x1 x2
        rw [HV.out] at y1
        injection y1 with y1
        exact e1 (bA_eq.2 (y1 ▸ y2)))
      have HD : Hid (decide (lo ≤ numB s ∧ numB s ≤ hi) = false) := Lib.hid (decide_eq_false HX.out)
      have b1 := ne_beq e1
      clear e1
      go_wp2_with fail
      go_ret2
      exact ⟨v, (by rw [HD.out]; rfl), fun x1 x2 => absurd ⟨x1, x2⟩ HX.out, HB2.out⟩
  · have HX : Hid (¬ (lo ≤ numB s ∧ numB s ≤ hi)) := Lib.hid (fun ⟨x1, x2⟩ => hno _ (HL.out.2 x1 x2).1)
    have HD : Hid (decide (lo ≤ numB s ∧ numB s ≤ hi) = false) := Lib.hid (decide_eq_false HX.out)
    have HB1 := Lib.hid hb1
    clear hb1 hno
    go_wp2_with fail
    go_ret2
    exact ⟨v, (by rw [HD.out]; rfl), fun x1 x2 => absurd ⟨x1, x2⟩ HX.out, HB1.out⟩
end Go.Proofs.YtddnfooachibiaaGreatDoor
