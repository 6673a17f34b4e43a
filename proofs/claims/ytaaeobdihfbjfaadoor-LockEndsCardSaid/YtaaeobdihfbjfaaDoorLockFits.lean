/-
  The law's 'fits', and a script in memory.
-/
import Derived.Test.YtaaeobdihfbjfaaDoorLockHead
set_option linter.unusedVariables false
set_option linter.unusedSimpArgs false
namespace Go.Proofs.YtaaeobdihfbjfaaDoor
open Go.RowKit
open Go.Proofs.YtaaeobdihfbjfaaDoorW.PrintWords (Kd ReadsRow)
/-- An operation: its kind, who, paths. -/
abbrev OpD := Int × Int × List ByteArray
def kOp : Kd OpD := Kd.pair (Kd.int .i64) (Kd.pair (Kd.int .i64) (Kd.slice 9 Kd.string))
/-- A script that is read. -/
def OpRow (w : World) (A : Option Addr) (l : List OpD) : Prop := 0 < l.length → ∃ b off, A = some ⟨b, off, none⟩ ∧ ∀ k (h : k < l.length), ∃ A' c', w.cell? ⟨b, off + k * 3, none⟩ = some (.int .i64 l[k].1) ∧ w.cell? ⟨b, off + k * 3 + 1, none⟩ = some (.int .i64 l[k].2.1) ∧
  w.cell? ⟨b, off + k * 3 + 2, none⟩ = some (.slice A' l[k].2.2.length c') ∧ l[k].2.2.length ≤ c' ∧ TextRow w A' l[k].2.2
theorem OpRow.below {w w' : World} {A : Option Addr} {l : List OpD} (h : OpRow w A l) (hb : Below w.heap.size w w') : OpRow w' A l := fun hn => by
  obtain ⟨b, off, e, hk⟩ := h hn
  refine ⟨b, off, e, fun k hkl => ?_⟩
  obtain ⟨A', c', h1, h2, h3, h4, h5⟩ := hk k hkl
  exact ⟨A', c', cell_below hb h1, cell_below hb h2, cell_below hb h3, h4, h5.below hb⟩
theorem opRow_of {w : World} {A : Option Addr} {l : List OpD} (h : Kd.C kOp w A l.length l) : OpRow w A l := by
  intro hn
  obtain ⟨ad, e, hc⟩ := h.2.2 hn
  obtain ⟨b, off, spot⟩ := ad
  have hall : ∀ k (hk : k < l.length), ∃ A' c', l[k].2.2.length ≤ c' ∧ TextRow w A' l[k].2.2 ∧ ∀ i u, ([.int .i64 l[k].1, .int .i64 l[k].2.1, .slice A' l[k].2.2.length c'] : List Value)[i]? = some u → w.cell? ((⟨b, off, spot⟩ : Addr).add (k * 3 + i)) = some u := by
    intro k hk
    obtain ⟨c, _, ⟨c0, c1, rfl, h0, ⟨c2, c3, rfl, h2, ⟨A', c', rfl, hle, hr⟩⟩⟩, hcell⟩ := hc k _ (List.getElem?_eq_getElem hk)
    obtain rfl : c0 = [.int .i64 l[k].1] := h0
    obtain rfl : c2 = [.int .i64 l[k].2.1] := h2
    exact ⟨A', c', hle, textRow_of hr, hcell⟩
  obtain ⟨A0, c0, _, _, hcell0⟩ := hall 0 hn
  have hs : spot = none := by
    have := World.cell?_spot (hcell0 0 _ rfl)
    simpa [Addr.add] using this
  subst hs
  refine ⟨b, off, e, fun k hk => ?_⟩
  obtain ⟨A', c', h1, h2, h3⟩ := hall k hk
  have g0 := h3 0 _ rfl
  have g1 := h3 1 _ rfl
  have g2 := h3 2 _ rfl
  rw [Addr.add_lit] at g0 g1 g2
  exact ⟨A', c', g0, by rw [Nat.add_assoc]; exact g1, by rw [Nat.add_assoc]; exact g2, h1, h2⟩
def fitB (o : OpD) : Bool := decide (o.2.2.length ≤ 20) && o.2.2.all fun p => decide (p.size ≤ 100)
def fitsB (l : List OpD) : Bool := decide (l.length ≤ 90) && l.all fitB
theorem fits_no {l : List OpD} {o : OpD} (ho : o ∈ l) (h : fitB o = false) : fitsB l = false := by
  rw [fitsB, Bool.and_eq_false_iff]
  right
  rw [List.all_eq_false]
  exact ⟨o, ho, by rw [h]; simp⟩
theorem and_no {b : Bool} {ps : List ByteArray} {s : ByteArray} (hs : s ∈ ps) (h : ¬ s.size ≤ 100) : (b && ps.all fun p => decide (p.size ≤ 100)) = false := by
  rw [Bool.and_eq_false_iff]
  right
  rw [List.all_eq_false]
  exact ⟨s, hs, by simpa using h⟩
set_option maxRecDepth 100000 in
set_option maxHeartbeats 4000000 in
theorem fits_any (A : Option Addr) (c : Nat) (l : List OpD) (w : World) (hr : OpRow w A l) (hlm : l.length ≤ 9223372036854775807) (hpm : ∀ o ∈ l, o.2.2.length ≤ 9223372036854775807 ∧ ∀ s ∈ o.2.2, s.size ≤ 9223372036854775807) :
    Calls Tryd.prog 16 #[.slice A l.length c] w fun e w' => e = .returned (.bool (fitsB l)) ∧ Below w.heap.size w w' := by
  have HR := Lib.hid hr
  have HP := Lib.hid hpm
  clear hr hpm
  by_cases hl : l.length ≤ 90
  · have d1 : decide ((90 : Int) < (l.length : Int)) = false := by simp; omega
    go_enter Tryd.func16, Tryd.ntmps16
    go_wp2_with fail
    go_loopw [12] (fun i wr => ∃ k : Nat, k ≤ l.length ∧ i = .int .i64 k ∧ Below w.heap.size w wr ∧ ∀ j (hj : j < l.length), j < k → fitB l[j] = true) (fun i _ => l.length - (intOf i).toNat)
    case atStart => exact ⟨0, by omega, rfl, Below.refl _ _, fun j hj h => by omega⟩
    case round =>
      obtain ⟨k, hk, rfl, hb, hall⟩ := hrel
      have HALL := Lib.hid hall
      clear hall
      by_cases hlt : k < l.length
      · obtain ⟨b, off, rfl, hrow⟩ := (HR.out.below hb) (by omega)
        obtain ⟨A', c', x1, x2, x3, x4, x5⟩ := hrow k hlt
        obtain ⟨o, ho⟩ : ∃ o, o = l[k] := ⟨_, rfl⟩
        have hpo := HP.out o (ho ▸ List.getElem_mem hlt)
        rw [← ho] at x1 x2 x3 x4 x5
        obtain ⟨ps, hps⟩ : ∃ ps, ps = o.2.2 := ⟨_, rfl⟩
        rw [← hps] at x3 x4 x5 hpo
        have hpl := hpo.1
        have HPS := Lib.hid hpo.2
        have HT := Lib.hid (x5.below (below_one wr (.cells #[.int .i64 o.1, .int .i64 o.2.1, .slice A' ps.length c'] 31)))
        have HO := Lib.hid ho
        have HPE := Lib.hid hps
        have hb1 := below_from hb (below_one wr (.cells #[.int .i64 o.1, .int .i64 o.2.1, .slice A' ps.length c'] 31))
        clear hrow x5 ho hps hpo
        by_cases h20 : ps.length ≤ 20
        · have d2 : decide ((20 : Int) < (ps.length : Int)) = false := by simp; omega
          go_wp2_with fail
          go_loop [23] (fun i => ∃ j : Nat, j ≤ ps.length ∧ i = .int .i64 j ∧ ∀ m (hm : m < ps.length), m < j → ps[m].size ≤ 100) (fun i => ps.length - (intOf i).toNat)
          case atStart => exact ⟨0, by omega, rfl, fun j hj h => by omega⟩
          case round =>
            obtain ⟨j, hj, rfl, hno⟩ := hrel
            have HNO := Lib.hid hno
            clear hno
            by_cases hjl : j < ps.length
            · obtain ⟨ad, rfl, hT⟩ := HT.out (by omega)
              obtain ⟨s, hs⟩ : ∃ s, s = ps[j] := ⟨_, rfl⟩
              have hcs := hT j hjl
              rw [← hs] at hcs
              have hsz := HPS.out s (hs ▸ List.getElem_mem hjl)
              have HSE := Lib.hid hs
              clear hT hs
              by_cases h100 : s.size ≤ 100
              · have d3 : decide ((100 : Int) < (s.size : Int)) = false := by simp; omega
                go_wp2_with fail
                go_round
                case rel => exact ⟨j + 1, by omega, by go_num, fun m hm h => by
                  by_cases e : m = j
                  · subst e; rw [← HSE.out]; exact h100
                  · exact HNO.out m hm (by omega)⟩
                case measure => simp [intOf]; omega
              · have d3 : decide ((100 : Int) < (s.size : Int)) = true := by simp; omega
                have HF : Hid (fitsB l = false) := Lib.hid (fits_no (List.getElem_mem hlt) (by rw [← HO.out, fitB, ← HPE.out]; exact and_no (List.getElem_mem hjl) (by rw [← HSE.out]; exact h100)))
                go_wp2
                go_ret
                exact ⟨ret_bool HF.out.symm, hb1⟩
            · have HFT : Hid (fitB o = true) := Lib.hid (by
                rw [fitB, ← HPE.out, decide_eq_true h20]
                exact List.all_eq_true.2 (fun s hs => by
                  obtain ⟨m, hm, rfl⟩ := List.getElem_of_mem hs
                  exact decide_eq_true (HNO.out m hm (by omega))))
              obtain rfl : j = ps.length := by omega
              go_wp2_with fail
              go_roundw
              case rel => exact ⟨k + 1, by omega, by go_num, hb1, fun m hm h => by
                by_cases e : m = k
                · subst e; rw [← HO.out]; exact HFT.out
                · exact HALL.out m hm (by omega)⟩
              case measure => simp [intOf]; omega
        · have d2 : decide ((20 : Int) < (ps.length : Int)) = true := by simp; omega
          have HF : Hid (fitsB l = false) := Lib.hid (fits_no (List.getElem_mem hlt) (by rw [← HO.out, fitB, ← HPE.out, decide_eq_false h20]; rfl))
          go_wp2
          go_ret
          exact ⟨ret_bool HF.out.symm, hb1⟩
      · have HF : Hid (fitsB l = true) := Lib.hid (by
          rw [fitsB, decide_eq_true hl]
          exact List.all_eq_true.2 (fun o ho => by
            obtain ⟨m, hm, rfl⟩ := List.getElem_of_mem ho
            exact HALL.out m hm (by omega)))
        obtain rfl : k = l.length := by omega
        go_wp2
        go_ret
        exact ⟨ret_bool HF.out.symm, hb⟩
  · have d1 : decide ((90 : Int) < (l.length : Int)) = true := by simp; omega
    have HF : Hid (fitsB l = false) := Lib.hid (by rw [fitsB, decide_eq_false hl]; rfl)
    go_enter Tryd.func16, Tryd.ntmps16
    go_wp2
    go_ret
    exact ⟨ret_bool HF.out.symm, Below.refl _ _⟩
end Go.Proofs.YtaaeobdihfbjfaaDoor
