/-
  The law's events and their 'fits'.
-/
import Derived.Test.YtkplkienbgoofaaDoorStoryReplay
import Derived.Test.YtkplkienbgoofaaDoorTreeFits
set_option linter.unusedVariables false
set_option linter.unusedSimpArgs false
namespace Go.Proofs.YtkplkienbgoofaaDoor
open Go.RowKit
open Go.Proofs.YtkplkienbgoofaaDoorW.PrintWords (Kd ReadsRow)
def kEv : Kd EvD := Kd.pair Kd.bool (Kd.pair (Kd.int .i64) (Kd.pair (Kd.int .i64) (Kd.pair Kd.string (Kd.pair Kd.string (Kd.slice 42 kChg)))))
def EvArg (o : EvD) : Prop := (Lit.int .i64 o.2.1).wf = true ∧ (Lit.int .i64 o.2.2.1).wf = true ∧ (∀ x ∈ o.2.2.2.2.2, ChgArg x)
theorem evRow_of {w : World} {A : Option Addr} {l : List EvD} (h : Kd.C kEv w A l.length l) : EvRow w A l ∧ (∀ o ∈ l, o.2.2.2.2.2.length ≤ 9223372036854775807 ∧ ∀ x ∈ o.2.2.2.2.2, x.2.1.length ≤ 9223372036854775807) := by
  have hall : ∀ k (hk : k < l.length), ∃ ad A' c', A = some ad ∧ l[k].2.2.2.2.2.length ≤ c' ∧ l[k].2.2.2.2.2.length ≤ 9223372036854775807 ∧ Kd.C kChg w A' l[k].2.2.2.2.2.length l[k].2.2.2.2.2 ∧ ∀ i u, ([.bool l[k].1, .int .i64 l[k].2.1, .int .i64 l[k].2.2.1, .string l[k].2.2.2.1, .string l[k].2.2.2.2.1, .slice A' l[k].2.2.2.2.2.length c'] : List Value)[i]? = some u → w.cell? (ad.add (k * 6 + i)) = some u := by
    intro k hk
    obtain ⟨ad, e, hc⟩ := h.2.2 (by omega)
    obtain ⟨c, _, ⟨c0, c1, rfl, h0, ⟨c2, c3, rfl, h1, ⟨c4, c5, rfl, h2, ⟨c6, c7, rfl, h3, ⟨c8, c9, rfl, h4, ⟨A', c', rfl, hle, hr⟩⟩⟩⟩⟩⟩, hcell⟩ := hc k _ (List.getElem?_eq_getElem hk)
    obtain rfl : c0 = [.bool l[k].1] := h0
    obtain rfl : c2 = [.int .i64 l[k].2.1] := h1
    obtain rfl : c4 = [.int .i64 l[k].2.2.1] := h2
    obtain rfl : c6 = [.string l[k].2.2.2.1] := h3
    obtain rfl : c8 = [.string l[k].2.2.2.2.1] := h4
    exact ⟨ad, A', c', e, hle, hr.2.1, hr, hcell⟩
  refine ⟨fun k hk => ?_, fun o ho => ?_⟩
  · obtain ⟨ad0, _, _, e0, _, _, _, hcell0⟩ := hall 0 (by omega)
    obtain ⟨ad, A', c', e, hle, _, hr, hcell⟩ := hall k hk
    obtain ⟨b, off, spot⟩ := ad
    have hs : spot = none := by
      have h1 := hcell0 0 _ rfl
      have e1 : ad0 = ⟨b, off, spot⟩ := Option.some.inj (e0.symm.trans e)
      rw [e1] at h1
      have := World.cell?_spot h1
      simpa [Addr.add] using this
    subst hs
    have g0 := hcell 0 _ rfl
    have g1 := hcell 1 _ rfl
    have g2 := hcell 2 _ rfl
    have g3 := hcell 3 _ rfl
    have g4 := hcell 4 _ rfl
    have g5 := hcell 5 _ rfl
    rw [Addr.add_lit] at g0 g1 g2 g3 g4 g5
    exact ⟨b, off, A', c', e, g0, by rw [Nat.add_assoc]; exact g1, by rw [Nat.add_assoc]; exact g2, by rw [Nat.add_assoc]; exact g3, by rw [Nat.add_assoc]; exact g4, by rw [Nat.add_assoc]; exact g5, hle, chgRow_of hr⟩
  · obtain ⟨k, hk, rfl⟩ := List.getElem_of_mem ho
    obtain ⟨ad, A', c', e, hle, hl, hr, hcell⟩ := hall k hk
    exact ⟨hl, chgLen_of hr⟩
def fitC3 (c : ChgD) : Bool := decide (c.1.size ≤ 100) && decide (c.2.1.length ≤ 1000)
def fitE (o : EvD) : Bool := decide (o.2.2.2.2.2.length ≤ 20) && (decide (o.2.2.2.1.size ≤ 100) && decide (o.2.2.2.2.1.size ≤ 100)) && o.2.2.2.2.2.all fitC3
def sizeE (l : List EvD) : Nat := (l.map fun o => sizeC o.2.2.2.2.2).sum
def fitL (l : List EvD) : Bool := decide (l.length ≤ 20) && l.all fitE && decide (sizeE l ≤ 20000)
theorem sizeE_take {l : List EvD} {k : Nat} (hk : k < l.length) : sizeE (l.take (k + 1)) = sizeE (l.take k) + sizeC l[k].2.2.2.2.2 := by
  rw [List.take_succ_eq_append_getElem hk]
  simp only [sizeE, List.map_append, List.sum_append, List.map_cons, List.map_nil, List.sum_cons, List.sum_nil, Nat.add_zero]
theorem sizeE_le (l : List EvD) (k : Nat) : sizeE (l.take k) ≤ sizeE l := by
  have h := List.take_append_drop k l
  have : sizeE l = sizeE (l.take k) + sizeE (l.drop k) := by
    conv => lhs; rw [← h]
    simp only [sizeE, List.map_append, List.sum_append]
  omega
theorem fitL_len {l : List EvD} (h : ¬ l.length ≤ 20) : fitL l = false := by simp [fitL, h]
theorem fitL_op {l : List EvD} {o : EvD} (ho : o ∈ l) (h : fitE o = false) : fitL l = false := by
  have : l.all fitE = false := List.all_eq_false.2 ⟨o, ho, by simp [h]⟩
  rw [fitL, this]
  simp
theorem fitL_size {l : List EvD} (h : 20000 < sizeE l) : fitL l = false := by
  have : decide (sizeE l ≤ 20000) = false := decide_eq_false (by omega)
  rw [fitL, this]
  simp
theorem fitE_chg {o : EvD} {c : ChgD} (hc : c ∈ o.2.2.2.2.2) (h : fitC3 c = false) : fitE o = false := by
  have : o.2.2.2.2.2.all fitC3 = false := List.all_eq_false.2 ⟨c, hc, by simp [h]⟩
  rw [fitE, this]
  simp
theorem fitL_yes {l : List EvD} (h1 : l.length ≤ 20) (h2 : ∀ o ∈ l, fitE o = true) (h3 : sizeE l ≤ 20000) : fitL l = true := by
  rw [fitL, decide_eq_true h1, decide_eq_true h3, List.all_eq_true.2 h2]
  rfl
theorem fitE_yes {o : EvD} (h1 : o.2.2.2.2.2.length ≤ 20) (h2 : o.2.2.2.1.size ≤ 100) (h4 : o.2.2.2.2.1.size ≤ 100) (h3 : ∀ c ∈ o.2.2.2.2.2, fitC3 c = true) : fitE o = true := by
  rw [fitE, decide_eq_true h1, decide_eq_true h2, decide_eq_true h4, List.all_eq_true.2 h3]
  rfl
theorem fitL_out {l : List EvD} (h : fitL l = true) : l.length ≤ 20 ∧ (∀ o ∈ l, EvGood o) ∧ sizeE l ≤ 20000 := by
  simp only [fitL, Bool.and_eq_true, decide_eq_true_eq, List.all_eq_true, fitE, fitC3] at h
  refine ⟨h.1.1, fun o ho => ?_, h.2⟩
  obtain ⟨⟨a, b, c⟩, d⟩ := h.1.2 o ho
  exact ⟨by omega, by omega, by omega, fun x hx => ⟨by have := (d x hx).1; omega, by have := (d x hx).2; omega⟩⟩
set_option maxRecDepth 100000 in
set_option maxHeartbeats 8000000 in
theorem fits_evs (A : Option Addr) (c : Nat) (l : List EvD) (w : World) (hr : EvRow w A l) (hlm : l.length ≤ 9223372036854775807) (hpm : ∀ o ∈ l, o.2.2.2.2.2.length ≤ 9223372036854775807 ∧ o.2.2.2.1.size ≤ 9223372036854775807 ∧ o.2.2.2.2.1.size ≤ 9223372036854775807 ∧ ∀ x ∈ o.2.2.2.2.2, x.1.size ≤ 9223372036854775807 ∧ x.2.1.length ≤ 9223372036854775807) :
    Calls Tryd.prog 5 #[.slice A l.length c] w fun e w' => e = .returned (.bool (fitL l)) ∧ Below w.heap.size w w' := by
  have HR := Lib.hid hr
  have HP := Lib.hid hpm
  clear hr hpm
  by_cases hl : l.length ≤ 20
  · have d1 : decide ((20 : Int) < (l.length : Int)) = false := by simp; omega
    go_enter Tryd.func5, Tryd.ntmps5
    go_wp2_with fail
    go_loopw [3, 13] (fun n i wr => ∃ k : Nat, k ≤ l.length ∧ i = .int .i64 k ∧ n = .int .i64 (sizeE (l.take k)) ∧ Below w.heap.size w wr ∧ sizeE (l.take k) ≤ 20000 ∧ ∀ j (hj : j < l.length), j < k → fitE l[j] = true) (fun _ i _ => l.length - (intOf i).toNat)
    case atStart => exact ⟨0, by omega, rfl, rfl, Below.refl _ _, by simp [sizeE], fun j hj h => by omega⟩
    case round =>
      obtain ⟨k, hk, rfl, rfl, hb, hsz, hall⟩ := hrel
      have HALL := Lib.hid hall
      have HB := Lib.hid hb
      clear hall hb
      by_cases hlt : k < l.length
      · obtain ⟨bb, off, A', c', rfl, x1, x2, x3, x4, x6, x7, x8, x5⟩ := (HR.out.below HB.out) k hlt
        obtain ⟨o, ho⟩ : ∃ o, o = l[k] := ⟨_, rfl⟩
        have hpo := HP.out o (ho ▸ List.getElem_mem hlt)
        rw [← ho] at x1 x2 x3 x4 x6 x7 x8 x5
        have hst := sizeE_take hlt
        rw [← ho] at hst
        have HO := Lib.hid ho
        clear ho
        obtain ⟨pu, who, ver, mo, ro, cs⟩ := o
        simp only at x1 x2 x3 x4 x6 x7 x8 x5 hpo hst
        obtain ⟨n0, hn0⟩ : ∃ n0, n0 = sizeE (l.take k) := ⟨_, rfl⟩
        rw [← hn0] at hst hsz ⊢
        have hpl := hpo.1
        have hmz := hpo.2.1
        have hrz := hpo.2.2.1
        have HPC := Lib.hid hpo.2.2.2
        have hb0 := below_one wr (.cells #[.bool pu, .int .i64 who, .int .i64 ver, .string mo, .string ro, .slice A' cs.length c'] 28)
        have HB1 := Lib.hid (below_from HB.out hb0)
        have HC := Lib.hid (x5.below hb0)
        clear hpo x5 hb0
        by_cases h80 : cs.length ≤ 20
        · have d2 : decide ((20 : Int) < (cs.length : Int)) = false := by simp; omega
          by_cases hm1 : mo.size ≤ 100
          · have e2 : decide ((100 : Int) < (mo.size : Int)) = false := by simp; omega
            by_cases hr1 : ro.size ≤ 100
            · have e3 : decide ((100 : Int) < (ro.size : Int)) = false := by simp; omega
              go_wp2_with fail
              generalize hW0 : wr.alloc (.cells #[.bool pu, .int .i64 who, .int .i64 ver, .string mo, .string ro, .slice A' cs.length c'] 28) = W0 at *
              go_loopw [3, 36] (fun n i wv => ∃ j : Nat, j ≤ cs.length ∧ i = .int .i64 j ∧ n = .int .i64 ((n0 + sizeC (cs.take j) : Nat) : Int) ∧ Below w.heap.size w wv ∧ Below W0.heap.size W0 wv ∧ n0 + sizeC (cs.take j) ≤ 20000 ∧ ∀ m (hm : m < cs.length), m < j → fitC3 cs[m] = true) (fun _ i _ => cs.length - (intOf i).toNat)
              case atStart => exact ⟨0, by omega, rfl, by simp [sizeC], HB1.out, Below.refl _ _, by simpa [sizeC] using hsz, fun j hj h => by omega⟩
              case round =>
                obtain ⟨j, hj, rfl, rfl, hbv, hb0v, hsj, hno⟩ := hrel
                have HNO := Lib.hid hno
                have HBV := Lib.hid hbv
                have HB0V := Lib.hid hb0v
                clear hno hbv hb0v
                by_cases hjl : j < cs.length
                · obtain ⟨bc, offc, A3, c3, rfl, y1, y2, y3, y4, y5, y6⟩ := (HC.out.below HB0V.out) j hjl
                  have hsc := sizeC_take hjl
                  obtain ⟨ch, hch⟩ : ∃ ch, ch = cs[j] := ⟨_, rfl⟩
                  have hpc := HPC.out ch (hch ▸ List.getElem_mem hjl)
                  rw [← hch] at y1 y2 y3 y4 hsc
                  have HCH := Lib.hid hch
                  clear hch y5 y6
                  obtain ⟨p, d, gn⟩ := ch
                  simp only at y1 y2 y3 y4 hsc hpc
                  obtain ⟨n1, hn1⟩ : ∃ n1, n1 = n0 + sizeC (cs.take j) := ⟨_, rfl⟩
                  rw [← hn1] at hsj ⊢
                  have hs1 := hpc.1
                  have hs2 := hpc.2
                  have hb1 := below_one wr (.cells #[.string p, .slice A3 d.length c3, .bool gn] 42)
                  have HBN := Lib.hid (below_from HBV.out hb1)
                  have HB0N := Lib.hid (below_from HB0V.out hb1)
                  clear hpc hb1
                  by_cases h100 : p.size ≤ 100
                  · have d4 : decide ((100 : Int) < (p.size : Int)) = false := by simp; omega
                    by_cases h1k : d.length ≤ 1000
                    · have d5 : decide ((1000 : Int) < (d.length : Int)) = false := by simp; omega
                      by_cases hmil : n1 + d.length ≤ 20000
                      · have d6 : decide ((20000 : Int) < (n1 : Int) + (d.length : Int)) = false := by simp; omega
                        go_wp2_with fail
                        go_roundw
                        case rel => exact ⟨j + 1, by omega, by go_num, by rw [hsc]; congr 1; omega, HBN.out, HB0N.out, by omega, fun m hm h => by
                          by_cases e : m = j
                          · subst e; rw [← HCH.out, fitC3, decide_eq_true h100, decide_eq_true h1k]; rfl
                          · exact HNO.out m hm (by omega)⟩
                        case measure => simp [intOf]; omega
                      · have d6 : decide ((20000 : Int) < (n1 : Int) + (d.length : Int)) = true := by simp; omega
                        have HF : Hid (fitL l = false) := Lib.hid (fitL_size (by
                          have h1 := sizeE_le l (k + 1)
                          have h2 := sizeC_le cs (j + 1)
                          omega))
                        go_wp2_with fail
                        go_ret
                        exact ⟨ret_bool HF.out.symm, HBN.out⟩
                    · have d5 : decide ((1000 : Int) < (d.length : Int)) = true := by simp; omega
                      have HF : Hid (fitL l = false) := Lib.hid (fitL_op (List.getElem_mem hlt) (by
                        rw [← HO.out]
                        exact fitE_chg (List.getElem_mem hjl) (by rw [← HCH.out, fitC3, decide_eq_false h1k, Bool.and_false])))
                      go_wp2_with fail
                      go_ret
                      exact ⟨ret_bool HF.out.symm, HBN.out⟩
                  · have d4 : decide ((100 : Int) < (p.size : Int)) = true := by simp; omega
                    have HF : Hid (fitL l = false) := Lib.hid (fitL_op (List.getElem_mem hlt) (by
                      rw [← HO.out]
                      exact fitE_chg (List.getElem_mem hjl) (by rw [← HCH.out, fitC3, decide_eq_false h100, Bool.false_and])))
                    go_wp2_with fail
                    go_ret
                    exact ⟨ret_bool HF.out.symm, HBN.out⟩
                · obtain rfl : j = cs.length := by omega
                  have hft : ∀ c ∈ cs, fitC3 c = true := fun c hc => by
                    obtain ⟨m, hm, rfl⟩ := List.getElem_of_mem hc
                    exact HNO.out m hm hm
                  have HFT := Lib.hid hft
                  have htk : cs.take cs.length = cs := List.take_length
                  rw [htk] at hsj ⊢
                  clear hft
                  go_wp2_with fail
                  go_roundw
                  case rel => exact ⟨k + 1, by omega, by go_num, by rw [hst], HBV.out, by omega, fun m hm h => by
                    by_cases e : m = k
                    · subst e; rw [← HO.out]; exact fitE_yes h80 hm1 hr1 HFT.out
                    · exact HALL.out m hm (by omega)⟩
                  case measure => simp [intOf]; omega
            · have e3 : decide ((100 : Int) < (ro.size : Int)) = true := by simp; omega
              have HF : Hid (fitL l = false) := Lib.hid (fitL_op (List.getElem_mem hlt) (by rw [← HO.out, fitE, decide_eq_true h80, decide_eq_true hm1, decide_eq_false hr1]; rfl))
              go_wp2_with fail
              go_ret
              exact ⟨ret_bool HF.out.symm, HB1.out⟩
          · have e2 : decide ((100 : Int) < (mo.size : Int)) = true := by simp; omega
            have HF : Hid (fitL l = false) := Lib.hid (fitL_op (List.getElem_mem hlt) (by rw [← HO.out, fitE, decide_eq_true h80, decide_eq_false hm1]; rfl))
            go_wp2_with fail
            go_ret
            exact ⟨ret_bool HF.out.symm, HB1.out⟩
        · have d2 : decide ((20 : Int) < (cs.length : Int)) = true := by simp; omega
          have HF : Hid (fitL l = false) := Lib.hid (fitL_op (List.getElem_mem hlt) (by rw [← HO.out, fitE, decide_eq_false h80]; rfl))
          go_wp2_with fail
          go_ret
          exact ⟨ret_bool HF.out.symm, HB1.out⟩
      · obtain rfl : k = l.length := by omega
        rw [List.take_length] at hsz
        have HF : Hid (fitL l = true) := Lib.hid (fitL_yes hl (fun o ho => by
          obtain ⟨m, hm, rfl⟩ := List.getElem_of_mem ho
          exact HALL.out m hm hm) hsz)
        go_wp2_with fail
        go_ret
        exact ⟨ret_bool HF.out.symm, HB.out⟩
  · have d1 : decide ((20 : Int) < (l.length : Int)) = true := by simp; omega
    have HF : Hid (fitL l = false) := Lib.hid (fitL_len hl)
    go_enter Tryd.func5, Tryd.ntmps5
    go_wp2
    go_ret
    exact ⟨ret_bool HF.out.symm, Below.refl _ _⟩
end Go.Proofs.YtkplkienbgoofaaDoor
