/-
  The law's scripts of a store and their 'fits'.
-/
import Derived.Test.YtlidenehfmlebaaGreatDoorViewHead
set_option linter.unusedVariables false
set_option linter.unusedSimpArgs false
namespace Go.Proofs.YtlidenehfmlebaaGreatDoor
open Go.RowKit
open Go.Proofs.YtlidenehfmlebaaGreatDoorW.PrintWords (Kd ReadsRow)
/-- An operation on a store: its kind, its number, its changes. -/
abbrev OpV := Int × Int × List ChgD
/-- A script in memory. -/
def OpVRow (w : World) (A : Option Addr) (l : List OpV) : Prop := ∀ k (h : k < l.length), ∃ b off A' c', A = some ⟨b, off, none⟩ ∧ w.cell? ⟨b, off + k * 3, none⟩ = some (.int .i64 l[k].1) ∧ w.cell? ⟨b, off + k * 3 + 1, none⟩ = some (.int .i64 l[k].2.1) ∧
  w.cell? ⟨b, off + k * 3 + 2, none⟩ = some (.slice A' l[k].2.2.length c') ∧ l[k].2.2.length ≤ c' ∧ ChgRow w A' l[k].2.2
theorem OpVRow.below {w w' : World} {A : Option Addr} {l : List OpV} (h : OpVRow w A l) (hb : Below w.heap.size w w') : OpVRow w' A l := fun k hk => by
  obtain ⟨b, off, A', c', h0, h1, h2, h3, h4, h5⟩ := h k hk
  exact ⟨b, off, A', c', h0, cell_below hb h1, cell_below hb h2, cell_below hb h3, h4, h5.below hb⟩
def kOpV : Kd OpV := Kd.pair (Kd.int .i64) (Kd.pair (Kd.int .i64) (Kd.slice 66 kChg))
def OpVArg (o : OpV) : Prop := (Lit.int .i64 o.1).wf = true ∧ (Lit.int .i64 o.2.1).wf = true ∧ (∀ x ∈ o.2.2, ChgArg x)
theorem opVRow_of {w : World} {A : Option Addr} {l : List OpV} (h : Kd.C kOpV w A l.length l) : OpVRow w A l ∧ (∀ o ∈ l, o.2.2.length ≤ 9223372036854775807 ∧ ∀ x ∈ o.2.2, x.2.1.length ≤ 9223372036854775807) := by
  have hall : ∀ k (hk : k < l.length), ∃ ad A' c', A = some ad ∧ l[k].2.2.length ≤ c' ∧ l[k].2.2.length ≤ 9223372036854775807 ∧ Kd.C kChg w A' l[k].2.2.length l[k].2.2 ∧ ∀ i u, ([.int .i64 l[k].1, .int .i64 l[k].2.1, .slice A' l[k].2.2.length c'] : List Value)[i]? = some u → w.cell? (ad.add (k * 3 + i)) = some u := by
    intro k hk
    obtain ⟨ad, e, hc⟩ := h.2.2 (by omega)
    obtain ⟨c, _, ⟨c0, c1, rfl, h0, ⟨c2, c3, rfl, h1, ⟨A', c', rfl, hle, hr⟩⟩⟩, hcell⟩ := hc k _ (List.getElem?_eq_getElem hk)
    obtain rfl : c0 = [.int .i64 l[k].1] := h0
    obtain rfl : c2 = [.int .i64 l[k].2.1] := h1
    exact ⟨ad, A', c', e, hle, hr.2.1, hr, hcell⟩
  refine ⟨fun k hk => ?_, fun o ho => ?_⟩
  · obtain ⟨ad0, _, _, e0, _, _, _, hcell0⟩ := hall 0 (by omega)
    obtain ⟨ad, A', c', e, hle, _, hr, hcell⟩ := hall k hk
    obtain ⟨b, off, spot⟩ := ad
    have hs : spot = none := by
      have h1 := hcell0 0 _ rfl
      have e1 : ad0 = ⟨b, off, spot⟩ := Option.some.inj (e0.symm.trans e)
      rw [e1] at h1
      have := World.cell?_spot h1
      simpa [Addr.add] using this
    subst hs
    have g0 := hcell 0 _ rfl
    have g1 := hcell 1 _ rfl
    have g2 := hcell 2 _ rfl
    rw [Addr.add_lit] at g0 g1 g2
    exact ⟨b, off, A', c', e, g0, by rw [Nat.add_assoc]; exact g1, by rw [Nat.add_assoc]; exact g2, hle, chgRow_of hr⟩
  · obtain ⟨k, hk, rfl⟩ := List.getElem_of_mem ho
    obtain ⟨ad, A', c', e, hle, hl, hr, hcell⟩ := hall k hk
    exact ⟨hl, chgLen_of hr⟩
def fitW (o : OpV) : Bool := decide (o.2.2.length ≤ 20) && o.2.2.all fitC
def sizeV (l : List OpV) : Nat := (l.map fun o => sizeC o.2.2).sum
def fitV (l : List OpV) : Bool := decide (l.length ≤ 100) && l.all fitW && decide (sizeV l ≤ 600000)
theorem sizeV_take {l : List OpV} {k : Nat} (hk : k < l.length) : sizeV (l.take (k + 1)) = sizeV (l.take k) + sizeC l[k].2.2 := by
  rw [List.take_succ_eq_append_getElem hk]
  simp only [sizeV, List.map_append, List.sum_append, List.map_cons, List.map_nil, List.sum_cons, List.sum_nil, Nat.add_zero]
theorem sizeV_le (l : List OpV) (k : Nat) : sizeV (l.take k) ≤ sizeV l := by
  have h := List.take_append_drop k l
  have : sizeV l = sizeV (l.take k) + sizeV (l.drop k) := by
    conv => lhs; rw [← h]
    simp only [sizeV, List.map_append, List.sum_append]
  omega
theorem fitV_len {l : List OpV} (h : ¬ l.length ≤ 100) : fitV l = false := by simp [fitV, h]
theorem fitV_op {l : List OpV} {o : OpV} (ho : o ∈ l) (h : fitW o = false) : fitV l = false := by
  have : l.all fitW = false := List.all_eq_false.2 ⟨o, ho, by simp [h]⟩
  rw [fitV, this]
  simp
theorem fitV_size {l : List OpV} (h : 600000 < sizeV l) : fitV l = false := by
  have : decide (sizeV l ≤ 600000) = false := decide_eq_false (by omega)
  rw [fitV, this]
  simp
theorem fitW_chg {o : OpV} {c : ChgD} (hc : c ∈ o.2.2) (h : fitC c = false) : fitW o = false := by
  have : o.2.2.all fitC = false := List.all_eq_false.2 ⟨c, hc, by simp [h]⟩
  rw [fitW, this]
  simp
theorem fitV_yes {l : List OpV} (h1 : l.length ≤ 100) (h2 : ∀ o ∈ l, fitW o = true) (h3 : sizeV l ≤ 600000) : fitV l = true := by
  rw [fitV, decide_eq_true h1, decide_eq_true h3, List.all_eq_true.2 h2]
  rfl
theorem fitW_yes {o : OpV} (h1 : o.2.2.length ≤ 20) (h3 : ∀ c ∈ o.2.2, fitC c = true) : fitW o = true := by
  rw [fitW, decide_eq_true h1, List.all_eq_true.2 h3]
  rfl
theorem fitV_out {l : List OpV} (h : fitV l = true) : l.length ≤ 100 ∧ (∀ o ∈ l, o.2.2.length ≤ 20 ∧ ∀ c ∈ o.2.2, c.1.size ≤ 200 ∧ c.2.1.length ≤ 300000) ∧ sizeV l ≤ 600000 := by
  simp only [fitV, Bool.and_eq_true, decide_eq_true_eq, List.all_eq_true, fitW, fitC] at h
  exact ⟨h.1.1, fun o ho => ⟨(h.1.2 o ho).1, fun c hc => (h.1.2 o ho).2 c hc⟩, h.2⟩
set_option maxRecDepth 100000 in
set_option maxHeartbeats 8000000 in
theorem fits_view (A : Option Addr) (c : Nat) (l : List OpV) (w : World) (hr : OpVRow w A l) (hlm : l.length ≤ 9223372036854775807) (hpm : ∀ o ∈ l, o.2.2.length ≤ 9223372036854775807 ∧ ∀ x ∈ o.2.2, x.1.size ≤ 9223372036854775807 ∧ x.2.1.length ≤ 9223372036854775807) :
    Calls Tryz.prog 7 #[.slice A l.length c] w fun e w' => e = .returned (.bool (fitV l)) ∧ Below w.heap.size w w' := by
  have HR := Lib.hid hr
  have HP := Lib.hid hpm
  clear hr hpm
  by_cases hl : l.length ≤ 100
  · have d1 : decide ((100 : Int) < (l.length : Int)) = false := by simp; omega
    go_enter Tryz.func7, Tryz.ntmps7
    go_wp2_with fail
    go_loopw [3, 13] (fun n i wr => ∃ k : Nat, k ≤ l.length ∧ i = .int .i64 k ∧ n = .int .i64 (sizeV (l.take k)) ∧ Below w.heap.size w wr ∧ sizeV (l.take k) ≤ 600000 ∧ ∀ j (hj : j < l.length), j < k → fitW l[j] = true) (fun _ i _ => l.length - (intOf i).toNat)
    case atStart => exact ⟨0, by omega, rfl, rfl, Below.refl _ _, by simp [sizeV], fun j hj h => by omega⟩
    case round =>
      obtain ⟨k, hk, rfl, rfl, hb, hsz, hall⟩ := hrel
      have HALL := Lib.hid hall
      have HB := Lib.hid hb
      clear hall hb
      by_cases hlt : k < l.length
      · obtain ⟨bb, off, A', c', rfl, x1, x2, x3, x4, x5⟩ := (HR.out.below HB.out) k hlt
        obtain ⟨o, ho⟩ : ∃ o, o = l[k] := ⟨_, rfl⟩
        have hpo := HP.out o (ho ▸ List.getElem_mem hlt)
        rw [← ho] at x1 x2 x3 x4 x5
        have hst := sizeV_take hlt
        rw [← ho] at hst
        have HO := Lib.hid ho
        clear ho
        obtain ⟨kd, nn, cs⟩ := o
        simp only at x1 x2 x3 x4 x5 hpo hst
        obtain ⟨n0, hn0⟩ : ∃ n0, n0 = sizeV (l.take k) := ⟨_, rfl⟩
        rw [← hn0] at hst hsz ⊢
        have hpl := hpo.1
        have HPC := Lib.hid hpo.2
        have hb0 := below_one wr (.cells #[.int .i64 kd, .int .i64 nn, .slice A' cs.length c'] 37)
        have HB1 := Lib.hid (below_from HB.out hb0)
        have HC := Lib.hid (x5.below hb0)
        clear hpo x5 hb0
        by_cases h80 : cs.length ≤ 20
        · have d2 : decide ((20 : Int) < (cs.length : Int)) = false := by simp; omega
          go_wp2_with fail
          generalize hW0 : wr.alloc (.cells #[.int .i64 kd, .int .i64 nn, .slice A' cs.length c'] 37) = W0 at *
          go_loopw [3, 24] (fun n i wv => ∃ j : Nat, j ≤ cs.length ∧ i = .int .i64 j ∧ n = .int .i64 ((n0 + sizeC (cs.take j) : Nat) : Int) ∧ Below w.heap.size w wv ∧ Below W0.heap.size W0 wv ∧ n0 + sizeC (cs.take j) ≤ 600000 ∧ ∀ m (hm : m < cs.length), m < j → fitC cs[m] = true) (fun _ i _ => cs.length - (intOf i).toNat)
          case atStart => exact ⟨0, by omega, rfl, by simp [sizeC], HB1.out, Below.refl _ _, by simpa [sizeC] using hsz, fun j hj h => by omega⟩
          case round =>
            obtain ⟨j, hj, rfl, rfl, hbv, hb0v, hsj, hno⟩ := hrel
            have HNO := Lib.hid hno
            have HBV := Lib.hid hbv
            have HB0V := Lib.hid hb0v
            clear hno hbv hb0v
            by_cases hjl : j < cs.length
            · obtain ⟨bc, offc, A3, c3, rfl, y1, y2, y3, y4, y5, y6⟩ := (HC.out.below HB0V.out) j hjl
              have hsc := sizeC_take hjl
              obtain ⟨ch, hch⟩ : ∃ ch, ch = cs[j] := ⟨_, rfl⟩
              have hpc := HPC.out ch (hch ▸ List.getElem_mem hjl)
              rw [← hch] at y1 y2 y3 y4 hsc
              have HCH := Lib.hid hch
              clear hch y5 y6
              obtain ⟨p, d, gn⟩ := ch
              simp only at y1 y2 y3 y4 hsc hpc
              obtain ⟨n1, hn1⟩ : ∃ n1, n1 = n0 + sizeC (cs.take j) := ⟨_, rfl⟩
              rw [← hn1] at hsj ⊢
              have hs1 := hpc.1
              have hs2 := hpc.2
              have hb1 := below_one wr (.cells #[.string p, .slice A3 d.length c3, .bool gn] 66)
              have HBN := Lib.hid (below_from HBV.out hb1)
              have HB0N := Lib.hid (below_from HB0V.out hb1)
              clear hpc hb1
              by_cases h200 : p.size ≤ 200
              · have d4 : decide ((200 : Int) < (p.size : Int)) = false := by simp; omega
                by_cases h300 : d.length ≤ 300000
                · have d5 : decide ((300000 : Int) < (d.length : Int)) = false := by simp; omega
                  by_cases hmil : n1 + d.length ≤ 600000
                  · have d6 : decide ((600000 : Int) < (n1 : Int) + (d.length : Int)) = false := by simp; omega
                    go_wp2_with fail
                    go_roundw
                    case rel => exact ⟨j + 1, by omega, by go_num, by rw [hsc]; congr 1; omega, HBN.out, HB0N.out, by omega, fun m hm h => by
                      by_cases e : m = j
                      · subst e; rw [← HCH.out, fitC, decide_eq_true h200, decide_eq_true h300]; rfl
                      · exact HNO.out m hm (by omega)⟩
                    case measure => simp [intOf]; omega
                  · have d6 : decide ((600000 : Int) < (n1 : Int) + (d.length : Int)) = true := by simp; omega
                    have HF : Hid (fitV l = false) := Lib.hid (fitV_size (by
                      have h1 := sizeV_le l (k + 1)
                      have h2 := sizeC_le cs (j + 1)
                      omega))
                    go_wp2_with fail
                    go_ret
                    exact ⟨ret_bool HF.out.symm, HBN.out⟩
                · have d5 : decide ((300000 : Int) < (d.length : Int)) = true := by simp; omega
                  have HF : Hid (fitV l = false) := Lib.hid (fitV_op (List.getElem_mem hlt) (by
                    rw [← HO.out]
                    exact fitW_chg (List.getElem_mem hjl) (by rw [← HCH.out, fitC, decide_eq_false h300, Bool.and_false])))
                  go_wp2_with fail
                  go_ret
                  exact ⟨ret_bool HF.out.symm, HBN.out⟩
              · have d4 : decide ((200 : Int) < (p.size : Int)) = true := by simp; omega
                have HF : Hid (fitV l = false) := Lib.hid (fitV_op (List.getElem_mem hlt) (by
                  rw [← HO.out]
                  exact fitW_chg (List.getElem_mem hjl) (by rw [← HCH.out, fitC, decide_eq_false h200, Bool.false_and])))
                go_wp2_with fail
                go_ret
                exact ⟨ret_bool HF.out.symm, HBN.out⟩
            · obtain rfl : j = cs.length := by omega
              have hft : ∀ c ∈ cs, fitC c = true := fun c hc => by
                obtain ⟨m, hm, rfl⟩ := List.getElem_of_mem hc
                exact HNO.out m hm hm
              have HFT := Lib.hid hft
              have htk : cs.take cs.length = cs := List.take_length
              rw [htk] at hsj ⊢
              clear hft
              go_wp2_with fail
              go_roundw
              case rel => exact ⟨k + 1, by omega, by go_num, by rw [hst], HBV.out, by omega, fun m hm h => by
                by_cases e : m = k
                · subst e; rw [← HO.out]; exact fitW_yes h80 HFT.out
                · exact HALL.out m hm (by omega)⟩
              case measure => simp [intOf]; omega
        · have d2 : decide ((20 : Int) < (cs.length : Int)) = true := by simp; omega
          have HF : Hid (fitV l = false) := Lib.hid (fitV_op (List.getElem_mem hlt) (by rw [← HO.out, fitW, decide_eq_false h80, Bool.false_and]))
          go_wp2_with fail
          go_ret
          exact ⟨ret_bool HF.out.symm, HB1.out⟩
      · obtain rfl : k = l.length := by omega
        rw [List.take_length] at hsz
        have HF : Hid (fitV l = true) := Lib.hid (fitV_yes hl (fun o ho => by
          obtain ⟨m, hm, rfl⟩ := List.getElem_of_mem ho
          exact HALL.out m hm hm) hsz)
        go_wp2_with fail
        go_ret
        exact ⟨ret_bool HF.out.symm, HB.out⟩
  · have d1 : decide ((100 : Int) < (l.length : Int)) = true := by simp; omega
    have HF : Hid (fitV l = false) := Lib.hid (fitV_len hl)
    go_enter Tryz.func7, Tryz.ntmps7
    go_wp2
    go_ret
    exact ⟨ret_bool HF.out.symm, Below.refl _ _⟩
end Go.Proofs.YtlidenehfmlebaaGreatDoor
