/-
  The laws' 'same' and 'fits'.
-/
import Derived.Test.YtmamkegcnacbbaaDoorTreeHead
set_option linter.unusedVariables false
set_option linter.unusedSimpArgs false
namespace Go.Proofs.YtmamkegcnacbbaaDoor
open Go.RowKit
open Go.Proofs.YtmamkegcnacbbaaDoorW.PrintWords (Kd ReadsRow)
theorem text_eq_false {a b : ByteArray} (h : a ≠ b) : (a.toList == b.toList) = false := by
  rw [beq_eq_false_iff_ne]
  intro e
  rw [ByteArray.toList_eq, ByteArray.toList_eq] at e
  exact h (ba_ext e)
set_option maxRecDepth 100000 in
set_option maxHeartbeats 4000000 in
theorem same_any (A B : Option Addr) (ca cb : Nat) (a b : List ByteArray) (w : World) (ha : TextRow w A a) (hb : TextRow w B b) (hal : a.length ≤ 9223372036854775807) (hbl : b.length ≤ 9223372036854775807) :
    Calls Tryd.prog 24 #[.slice A a.length ca, .slice B b.length cb] w fun e w' => e = .returned (.bool (decide (a = b))) ∧ Below w.heap.size w w' := by
  have HA := Lib.hid ha
  have HB := Lib.hid hb
  clear ha hb
  by_cases hl : a.length = b.length
  · have d1 : ((a.length : Int) == (b.length : Int)) = true := by simp; omega
    go_enter Tryd.func24, Tryd.ntmps24
    go_wp2_with fail
    go_loopw [13] (fun i wr => ∃ k : Nat, k ≤ a.length ∧ i = .int .i64 k ∧ Below w.heap.size w wr ∧ ∀ j (h1 : j < a.length) (h2 : j < b.length), j < k → a[j] = b[j]) (fun i _ => a.length - (intOf i).toNat)
    case atStart => exact ⟨0, by omega, rfl, Below.refl _ _, fun j h1 h2 h => by omega⟩
    case round =>
      obtain ⟨k, hk, rfl, hbr, hall⟩ := hrel
      have HALL := Lib.hid hall
      have HBR := Lib.hid hbr
      clear hall hbr
      by_cases hlt : k < a.length
      · obtain ⟨ad, rfl, hT⟩ := (HA.out.below HBR.out) (by omega)
        obtain ⟨bd, rfl, hU⟩ := (HB.out.below HBR.out) (by omega)
        have hltb : k < b.length := by omega
        have c1 := hT k hlt
        have c2 := hU k hltb
        have hnb : (k : Int) < (b.length : Int) := by omega
        clear hT hU
        by_cases hab : a[k] = b[k]
        · rw [← hab] at c2
          have HAB := Lib.hid hab
          clear hab
          go_wp2_with fail
          go_quiet (fail)
          go_wp2_with fail
          go_roundw
          case rel => exact ⟨k + 1, by omega, by go_num, below_drewN HBR.out _, fun j h1 h2 h => by
            by_cases e : j = k
            · subst e; exact HAB.out
            · exact HALL.out j h1 h2 (by omega)⟩
          case measure => simp [intOf]; omega
        · have hne := text_eq_false hab
          have hd : decide (a = b) = false := decide_eq_false (fun e => by subst e; exact hab rfl)
          have HD := Lib.hid hd
          clear hab hd
          go_wp2_with fail
          go_quiet (fail)
          go_wp2_with fail
          go_ret
          exact ⟨ret_bool HD.out.symm, below_drewN HBR.out _⟩
      · have HD : Hid (decide (a = b) = true) := Lib.hid (decide_eq_true (List.ext_getElem hl (fun i h1 h2 => HALL.out i h1 h2 (by omega))))
        obtain rfl : k = a.length := by omega
        go_wp2_with fail
        go_ret
        exact ⟨ret_bool HD.out.symm, HBR.out⟩
  · have d1 : ((a.length : Int) == (b.length : Int)) = false := by rw [beq_eq_false_iff_ne]; omega
    have HD : Hid (decide (a = b) = false) := Lib.hid (decide_eq_false (fun e => hl (by rw [e])))
    go_enter Tryd.func24, Tryd.ntmps24
    go_wp2_with fail
    go_ret
    exact ⟨ret_bool HD.out.symm, Below.refl _ _⟩
/-- An operation of a script: its kind, its changes, the versions that are kept. -/
abbrev OpT := Int × List ChgD × List Int
/-- A script in memory. -/
def OpTRow (w : World) (A : Option Addr) (l : List OpT) : Prop := ∀ k (h : k < l.length), ∃ b off A' c' A2 c2, A = some ⟨b, off, none⟩ ∧ w.cell? ⟨b, off + k * 3, none⟩ = some (.int .i64 l[k].1) ∧ w.cell? ⟨b, off + k * 3 + 1, none⟩ = some (.slice A' l[k].2.1.length c') ∧
  w.cell? ⟨b, off + k * 3 + 2, none⟩ = some (.slice A2 l[k].2.2.length c2) ∧ l[k].2.1.length ≤ c' ∧ ChgRow w A' l[k].2.1 ∧ l[k].2.2.length ≤ c2 ∧ IntRow w A2 l[k].2.2
theorem OpTRow.below {w w' : World} {A : Option Addr} {l : List OpT} (h : OpTRow w A l) (hb : Below w.heap.size w w') : OpTRow w' A l := fun k hk => by
  obtain ⟨b, off, A', c', A2, c2, h0, h1, h2, h3, h4, h5, h6⟩ := h k hk
  exact ⟨b, off, A', c', A2, c2, h0, cell_below hb h1, cell_below hb h2, cell_below hb h3, h4, h5.below hb, h6.1, h6.2.below hb⟩
def fitC (c : ChgD) : Bool := decide (c.1.size ≤ 200) && decide (c.2.1.length ≤ 300000)
def fitO (o : OpT) : Bool := decide (o.2.1.length ≤ 80) && decide (o.2.2.length ≤ 20) && o.2.1.all fitC
def sizeC (l : List ChgD) : Nat := (l.map fun c => c.2.1.length).sum
def sizeO (l : List OpT) : Nat := (l.map fun o => sizeC o.2.1).sum
def fitT (l : List OpT) : Bool := decide (l.length ≤ 30) && l.all fitO && decide (sizeO l ≤ 1000000)
theorem sizeC_take {l : List ChgD} {k : Nat} (hk : k < l.length) : sizeC (l.take (k + 1)) = sizeC (l.take k) + l[k].2.1.length := by
  rw [List.take_succ_eq_append_getElem hk]
  simp only [sizeC, List.map_append, List.sum_append, List.map_cons, List.map_nil, List.sum_cons, List.sum_nil, Nat.add_zero]
theorem sizeO_take {l : List OpT} {k : Nat} (hk : k < l.length) : sizeO (l.take (k + 1)) = sizeO (l.take k) + sizeC l[k].2.1 := by
  rw [List.take_succ_eq_append_getElem hk]
  simp only [sizeO, List.map_append, List.sum_append, List.map_cons, List.map_nil, List.sum_cons, List.sum_nil, Nat.add_zero]
theorem sizeC_le (l : List ChgD) (k : Nat) : sizeC (l.take k) ≤ sizeC l := by
  have h := List.take_append_drop k l
  have : sizeC l = sizeC (l.take k) + sizeC (l.drop k) := by
    conv => lhs; rw [← h]
    simp only [sizeC, List.map_append, List.sum_append]
  omega
theorem sizeO_le (l : List OpT) (k : Nat) : sizeO (l.take k) ≤ sizeO l := by
  have h := List.take_append_drop k l
  have : sizeO l = sizeO (l.take k) + sizeO (l.drop k) := by
    conv => lhs; rw [← h]
    simp only [sizeO, List.map_append, List.sum_append]
  omega
theorem fitT_len {l : List OpT} (h : ¬ l.length ≤ 30) : fitT l = false := by simp [fitT, h]
theorem fitT_op {l : List OpT} {o : OpT} (ho : o ∈ l) (h : fitO o = false) : fitT l = false := by
  have : l.all fitO = false := List.all_eq_false.2 ⟨o, ho, by simp [h]⟩
  rw [fitT, this]
  simp
theorem fitT_size {l : List OpT} (h : 1000000 < sizeO l) : fitT l = false := by
  have : decide (sizeO l ≤ 1000000) = false := decide_eq_false (by omega)
  rw [fitT, this]
  simp
theorem fitO_chg {o : OpT} {c : ChgD} (hc : c ∈ o.2.1) (h : fitC c = false) : fitO o = false := by
  have : o.2.1.all fitC = false := List.all_eq_false.2 ⟨c, hc, by simp [h]⟩
  rw [fitO, this]
  simp
theorem fitT_yes {l : List OpT} (h1 : l.length ≤ 30) (h2 : ∀ o ∈ l, fitO o = true) (h3 : sizeO l ≤ 1000000) : fitT l = true := by
  rw [fitT, decide_eq_true h1, decide_eq_true h3, List.all_eq_true.2 h2]
  rfl
theorem fitO_yes {o : OpT} (h1 : o.2.1.length ≤ 80) (h2 : o.2.2.length ≤ 20) (h3 : ∀ c ∈ o.2.1, fitC c = true) : fitO o = true := by
  rw [fitO, decide_eq_true h1, decide_eq_true h2, List.all_eq_true.2 h3]
  rfl
theorem fitT_out {l : List OpT} (h : fitT l = true) : l.length ≤ 30 ∧ (∀ o ∈ l, o.2.1.length ≤ 80 ∧ o.2.2.length ≤ 20 ∧ ∀ c ∈ o.2.1, c.1.size ≤ 200 ∧ c.2.1.length ≤ 300000) ∧ sizeO l ≤ 1000000 := by
  simp only [fitT, Bool.and_eq_true, decide_eq_true_eq, List.all_eq_true, fitO, fitC] at h
  exact ⟨h.1.1, fun o ho => ⟨(h.1.2 o ho).1.1, (h.1.2 o ho).1.2, fun c hc => (h.1.2 o ho).2 c hc⟩, h.2⟩
set_option maxRecDepth 100000 in
set_option maxHeartbeats 8000000 in
theorem fits_tree (A : Option Addr) (c : Nat) (l : List OpT) (w : World) (hr : OpTRow w A l) (hlm : l.length ≤ 9223372036854775807) (hpm : ∀ o ∈ l, o.2.1.length ≤ 9223372036854775807 ∧ o.2.2.length ≤ 9223372036854775807 ∧ ∀ x ∈ o.2.1, x.1.size ≤ 9223372036854775807 ∧ x.2.1.length ≤ 9223372036854775807) :
    Calls Tryd.prog 19 #[.slice A l.length c] w fun e w' => e = .returned (.bool (fitT l)) ∧ Below w.heap.size w w' := by
  have HR := Lib.hid hr
  have HP := Lib.hid hpm
  clear hr hpm
  by_cases hl : l.length ≤ 30
  · have d1 : decide ((30 : Int) < (l.length : Int)) = false := by simp; omega
    go_enter Tryd.func19, Tryd.ntmps19
    go_wp2_with fail
    go_loopw [3, 13] (fun n i wr => ∃ k : Nat, k ≤ l.length ∧ i = .int .i64 k ∧ n = .int .i64 (sizeO (l.take k)) ∧ Below w.heap.size w wr ∧ sizeO (l.take k) ≤ 1000000 ∧ ∀ j (hj : j < l.length), j < k → fitO l[j] = true) (fun _ i _ => l.length - (intOf i).toNat)
    case atStart => exact ⟨0, by omega, rfl, rfl, Below.refl _ _, by simp [sizeO], fun j hj h => by omega⟩
    case round =>
      obtain ⟨k, hk, rfl, rfl, hb, hsz, hall⟩ := hrel
      have HALL := Lib.hid hall
      have HB := Lib.hid hb
      clear hall hb
      by_cases hlt : k < l.length
      · obtain ⟨bb, off, A', c', A2, c2, rfl, x1, x2, x3, x4, x5, x6⟩ := (HR.out.below HB.out) k hlt
        obtain ⟨o, ho⟩ : ∃ o, o = l[k] := ⟨_, rfl⟩
        have hpo := HP.out o (ho ▸ List.getElem_mem hlt)
        rw [← ho] at x1 x2 x3 x4 x5 x6
        have hst := sizeO_take hlt
        rw [← ho] at hst
        have HO := Lib.hid ho
        clear ho
        obtain ⟨kd, cs, kp⟩ := o
        simp only at x1 x2 x3 x4 x5 x6 hpo hst
        obtain ⟨n0, hn0⟩ : ∃ n0, n0 = sizeO (l.take k) := ⟨_, rfl⟩
        rw [← hn0] at hst hsz ⊢
        have hpl := hpo.1
        have hkl := hpo.2.1
        have HPC := Lib.hid hpo.2.2
        have hb0 := below_one wr (.cells #[.int .i64 kd, .slice A' cs.length c', .slice A2 kp.length c2] 52)
        have HB1 := Lib.hid (below_from HB.out hb0)
        have HC := Lib.hid (x5.below hb0)
        clear hpo x5 hb0
        by_cases h80 : cs.length ≤ 80
        · have d2 : decide ((80 : Int) < (cs.length : Int)) = false := by simp; omega
          by_cases h20 : kp.length ≤ 20
          · have d3 : decide ((20 : Int) < (kp.length : Int)) = false := by simp; omega
            go_wp2_with fail
            generalize hW0 : wr.alloc (.cells #[.int .i64 kd, .slice A' cs.length c', .slice A2 kp.length c2] 52) = W0 at *
            go_loopw [3, 30] (fun n i wv => ∃ j : Nat, j ≤ cs.length ∧ i = .int .i64 j ∧ n = .int .i64 ((n0 + sizeC (cs.take j) : Nat) : Int) ∧ Below w.heap.size w wv ∧ Below W0.heap.size W0 wv ∧ n0 + sizeC (cs.take j) ≤ 1000000 ∧ ∀ m (hm : m < cs.length), m < j → fitC cs[m] = true) (fun _ i _ => cs.length - (intOf i).toNat)
            case atStart => exact ⟨0, by omega, rfl, by simp [sizeC], HB1.out, Below.refl _ _, by simpa [sizeC] using hsz, fun j hj h => by omega⟩
            case round =>
              obtain ⟨j, hj, rfl, rfl, hbv, hb0v, hsj, hno⟩ := hrel
              have HNO := Lib.hid hno
              have HBV := Lib.hid hbv
              have HB0V := Lib.hid hb0v
              clear hno hbv hb0v
              by_cases hjl : j < cs.length
              · obtain ⟨bc, offc, A3, c3, rfl, y1, y2, y3, y4, y5, y6⟩ := (HC.out.below HB0V.out) j hjl
                have hsc := sizeC_take hjl
                obtain ⟨ch, hch⟩ : ∃ ch, ch = cs[j] := ⟨_, rfl⟩
                have hpc := HPC.out ch (hch ▸ List.getElem_mem hjl)
                rw [← hch] at y1 y2 y3 y4 hsc
                have HCH := Lib.hid hch
                clear hch y5 y6
                obtain ⟨p, d, gn⟩ := ch
                simp only at y1 y2 y3 y4 hsc hpc
                obtain ⟨n1, hn1⟩ : ∃ n1, n1 = n0 + sizeC (cs.take j) := ⟨_, rfl⟩
                rw [← hn1] at hsj ⊢
                have hs1 := hpc.1
                have hs2 := hpc.2
                have hb1 := below_one wr (.cells #[.string p, .slice A3 d.length c3, .bool gn] 43)
                have HBN := Lib.hid (below_from HBV.out hb1)
                have HB0N := Lib.hid (below_from HB0V.out hb1)
                clear hpc hb1
                by_cases h200 : p.size ≤ 200
                · have d4 : decide ((200 : Int) < (p.size : Int)) = false := by simp; omega
                  by_cases h300 : d.length ≤ 300000
                  · have d5 : decide ((300000 : Int) < (d.length : Int)) = false := by simp; omega
                    by_cases hmil : n1 + d.length ≤ 1000000
                    · have d6 : decide ((1000000 : Int) < (n1 : Int) + (d.length : Int)) = false := by simp; omega
                      go_wp2_with fail
                      go_roundw
                      case rel => exact ⟨j + 1, by omega, by go_num, by rw [hsc]; congr 1; omega, HBN.out, HB0N.out, by omega, fun m hm h => by
                        by_cases e : m = j
                        · subst e; rw [← HCH.out, fitC, decide_eq_true h200, decide_eq_true h300]; rfl
                        · exact HNO.out m hm (by omega)⟩
                      case measure => simp [intOf]; omega
                    · have d6 : decide ((1000000 : Int) < (n1 : Int) + (d.length : Int)) = true := by simp; omega
                      have HF : Hid (fitT l = false) := Lib.hid (fitT_size (by
                        have h1 := sizeO_le l (k + 1)
                        have h2 := sizeC_le cs (j + 1)
                        omega))
                      go_wp2_with fail
                      go_ret
                      exact ⟨ret_bool HF.out.symm, HBN.out⟩
                  · have d5 : decide ((300000 : Int) < (d.length : Int)) = true := by simp; omega
                    have HF : Hid (fitT l = false) := Lib.hid (fitT_op (List.getElem_mem hlt) (by
                      rw [← HO.out]
                      exact fitO_chg (List.getElem_mem hjl) (by rw [← HCH.out, fitC, decide_eq_false h300, Bool.and_false])))
                    go_wp2_with fail
                    go_ret
                    exact ⟨ret_bool HF.out.symm, HBN.out⟩
                · have d4 : decide ((200 : Int) < (p.size : Int)) = true := by simp; omega
                  have HF : Hid (fitT l = false) := Lib.hid (fitT_op (List.getElem_mem hlt) (by
                    rw [← HO.out]
                    exact fitO_chg (List.getElem_mem hjl) (by rw [← HCH.out, fitC, decide_eq_false h200, Bool.false_and])))
                  go_wp2_with fail
                  go_ret
                  exact ⟨ret_bool HF.out.symm, HBN.out⟩
              · obtain rfl : j = cs.length := by omega
                have hft : ∀ c ∈ cs, fitC c = true := fun c hc => by
                  obtain ⟨m, hm, rfl⟩ := List.getElem_of_mem hc
                  exact HNO.out m hm hm
                have HFT := Lib.hid hft
                have htk : cs.take cs.length = cs := List.take_length
                rw [htk] at hsj ⊢
                clear hft
                go_wp2_with fail
                go_roundw
                case rel => exact ⟨k + 1, by omega, by go_num, by rw [hst], HBV.out, by omega, fun m hm h => by
                  by_cases e : m = k
                  · subst e; rw [← HO.out]; exact fitO_yes h80 h20 HFT.out
                  · exact HALL.out m hm (by omega)⟩
                case measure => simp [intOf]; omega
          · have d3 : decide ((20 : Int) < (kp.length : Int)) = true := by simp; omega
            have HF : Hid (fitT l = false) := Lib.hid (fitT_op (List.getElem_mem hlt) (by rw [← HO.out, fitO, decide_eq_false h20, Bool.and_false, Bool.false_and]))
            go_wp2_with fail
            go_ret
            exact ⟨ret_bool HF.out.symm, HB1.out⟩
        · have d2 : decide ((80 : Int) < (cs.length : Int)) = true := by simp; omega
          have HF : Hid (fitT l = false) := Lib.hid (fitT_op (List.getElem_mem hlt) (by rw [← HO.out, fitO, decide_eq_false h80, Bool.false_and, Bool.false_and]))
          go_wp2_with fail
          go_ret
          exact ⟨ret_bool HF.out.symm, HB1.out⟩
      · obtain rfl : k = l.length := by omega
        rw [List.take_length] at hsz
        have HF : Hid (fitT l = true) := Lib.hid (fitT_yes hl (fun o ho => by
          obtain ⟨m, hm, rfl⟩ := List.getElem_of_mem ho
          exact HALL.out m hm hm) hsz)
        go_wp2_with fail
        go_ret
        exact ⟨ret_bool HF.out.symm, HB.out⟩
  · have d1 : decide ((30 : Int) < (l.length : Int)) = true := by simp; omega
    have HF : Hid (fitT l = false) := Lib.hid (fitT_len hl)
    go_enter Tryd.func19, Tryd.ntmps19
    go_wp2
    go_ret
    exact ⟨ret_bool HF.out.symm, Below.refl _ _⟩
end Go.Proofs.YtmamkegcnacbbaaDoor
