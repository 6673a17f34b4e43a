/-
  The law PathSets, walked.
-/
import Derived.Test.YtkhnfepnapgfaaaDoorSetBoth
set_option linter.unusedVariables false
set_option linter.unusedSimpArgs false
namespace Go.Proofs.YtkhnfepnapgfaaaDoor
open Go.RowKit
open Go.Proofs.YtkhnfepnapgfaaaDoorW.PrintWords (Kd ReadsRow)
set_option maxRecDepth 100000 in
set_option maxHeartbeats 4000000 in
theorem pathSets_walk (v : Value) (l : List ByteArray) (w : World) (hv : SliceArg Kd.string w v l) (hs : ∀ s ∈ l, s.size ≤ maxLen) (hg : Env w) :
    Calls Tryd.prog 11 #[v] w fun e w' => e = .returned (.bool true) ∧ Below w.heap.size w w' := by
  obtain ⟨A, c, rfl, hlc, hcm, hC⟩ := hv
  have HK := Lib.hid (checks_any w hg)
  have HG := Lib.hid hg
  have HR := Lib.hid (textRow_of hC)
  have HS := Lib.hid hs
  clear hg hC hs
  have hmx : (maxLen : Nat) = 9223372036854775807 := rfl
  have hlm : l.length ≤ 9223372036854775807 := by omega
  by_cases hl : l.length ≤ 20
  · have hl2 : decide ((20 : Int) < (l.length : Int)) = false := by simp; omega
    go_enter Tryd.func11, Tryd.ntmps11
    go_wp2_with fail
    refine HK.out.mono ?_
    rintro e w1 ⟨rfl, hb1⟩
    have HG1 := Lib.hid (HG.out.below hb1)
    go_wp2_with fail
    go_loop [18] (fun i => ∃ k : Nat, k ≤ l.length ∧ i = .int .i64 k ∧ ∀ j (hj : j < l.length), j < k → l[j].size ≤ 200) (fun i => l.length - (intOf i).toNat)
    case atStart => exact ⟨0, by omega, rfl, fun j hj h => by omega⟩
    case round =>
      obtain ⟨k, hk, rfl, hz⟩ := hrel
      have HZ := Lib.hid hz
      clear hz
      by_cases hlt : k < l.length
      · obtain ⟨s, hs⟩ : ∃ s, s = l[k] := ⟨_, rfl⟩
        obtain ⟨ad, rfl, hT⟩ := (HR.out.below hb1) (by omega)
        have hcell := hT k hlt
        have hsm := HS.out s (hs ▸ List.getElem_mem hlt)
        rw [← hs] at hcell
        have HT := Lib.hid hT
        have HSE := Lib.hid hs
        clear hT hs
        by_cases h200 : s.size ≤ 200
        · have h2 : decide ((200 : Int) < (s.size : Int)) = false := by simp; omega
          go_wp2_with fail
          go_round
          case rel => exact ⟨k + 1, by omega, by go_num, fun j hj h => by
            by_cases e : j = k
            · subst e; rw [← HSE.out]; exact h200
            · exact HZ.out j hj (by omega)⟩
          case measure => simp [intOf]; omega
        · have h2 : decide ((200 : Int) < (s.size : Int)) = true := by simp; omega
          go_wp2
          go_ret
          exact ⟨rfl, hb1⟩
      · obtain rfl : k = l.length := by omega
        have hz2 : ∀ s ∈ l, s.size ≤ 140737488351232 := fun s hs => by
          obtain ⟨j, hj, rfl⟩ := List.getElem_of_mem hs
          have := HZ.out j hj hj
          omega
        have HZ2 := Lib.hid hz2
        clear hz2 hlt
        have HR1 := Lib.hid (HR.out.below hb1)
        obtain ⟨r, hr⟩ : ∃ r, r = setGo 0 [] l := ⟨_, rfl⟩
        have HRE := Lib.hid hr
        clear hr
        go_wp2_with fail
        refine (set_any A c l _ (by omega) HR1.out HZ2.out HG1.out.ml).mono ?_
        rw [← HRE.out]
        rintro e w2 ⟨hb2, v1, er, rfl, hve, ho1⟩
        have HV := Lib.hid hve
        have HO1 := Lib.hid ho1
        have HR2 := Lib.hid (HR1.out.below hb2)
        have HG2 := Lib.hid (HG1.out.below hb2)
        clear hve ho1
        go_wp2_with fail
        refine (rset_any A c l _ (by omega) HR2.out HZ2.out).mono ?_
        rw [← HRE.out]
        rintro e w3 ⟨hb3, v2, rfl, ho2⟩
        have HO2 := Lib.hid ho2
        have HV3 := Lib.hid (HV.out.below hb3)
        have HG3 := Lib.hid (HG2.out.below hb3)
        have HO3 := Lib.hid (own_stay HO1.out hb3)
        clear ho2
        go_wp2_with fail
        refine (number er r.err _ HV3.out HG3.out).mono ?_
        rintro e w4 ⟨rfl, hb4⟩
        have hb41 : Below w.heap.size w w4 := below_from (below_from (below_from hb1 hb2) hb3) hb4
        obtain ⟨A1, c1, rfl, hc1, hr1⟩ := own_row (own_stay HO3.out hb4)
        obtain ⟨A2, c2, rfl, hc2, hr2⟩ := own_row (own_stay HO2.out hb4)
        have HA := Lib.hid hr1
        have HB := Lib.hid hr2
        have HV4 := Lib.hid (HV3.out.below hb4)
        have HG4 := Lib.hid (HG3.out.below hb4)
        have hrl : r.outs.length ≤ 20 := by rw [HRE.out]; have := setGo_len l 0 []; simp at this; omega
        clear hr1 hr2 hb2 hb3
        cases r with
        | none_ i =>
          have e1 : (SetR.none_ i).err.num = 90 := rfl
          have e2 : (SetR.none_ i).outs.length = 0 := rfl
          have e3 : (SetR.none_ i).at_ = i := rfl
          simp only [e1, e2, e3]
          clear e1 e2 e3
          go_wp2_with fail
          refine (place er (.joined i 90) _ HV4.out HG4.out).mono ?_
          rintro e w5 ⟨rfl, hb5⟩
          simp only [GErr.place]
          go_wp2_with fail
          refine wp_loop_rounds 1 ?_
          rw [rounds_succ]
          go_wp2
          go_ret
          exact ⟨rfl, below_from hb41 hb5⟩
        | bad i c0 =>
          have e1 : (SetR.bad i c0).err.num = c0 := rfl
          have e2 : (SetR.bad i c0).outs.length = 0 := rfl
          have e3 : (SetR.bad i c0).at_ = i := rfl
          have hcc := setGo_two l 0 [] HRE.out.symm
          rcases hcc with rfl | rfl
          · simp only [e1, e2, e3]
            clear e1 e2 e3
            go_wp2_with fail
            refine (place er (.fault i 5) _ HV4.out HG4.out).mono ?_
            rintro e w5 ⟨rfl, hb5⟩
            simp only [GErr.place]
            go_wp2_with fail
            refine wp_loop_rounds 1 ?_
            rw [rounds_succ]
            go_wp2
            go_ret
            exact ⟨rfl, below_from hb41 hb5⟩
          · simp only [e1, e2, e3]
            clear e1 e2 e3
            go_wp2_with fail
            refine (place er (.fault i 90) _ HV4.out HG4.out).mono ?_
            rintro e w5 ⟨rfl, hb5⟩
            simp only [GErr.place]
            go_wp2_with fail
            refine wp_loop_rounds 1 ?_
            rw [rounds_succ]
            go_wp2
            go_ret
            exact ⟨rfl, below_from hb41 hb5⟩
        | ok xs =>
          have e1 : (SetR.ok xs).err.num = 0 := rfl
          have e2 : (SetR.ok xs).outs.length = xs.length := rfl
          have e3 : (SetR.ok xs).at_ = 0 := rfl
          simp only [e1, e2, e3]
          have hrl2 : xs.length ≤ 20 := hrl
          clear e1 e2 e3 hrl
          go_wp2_with fail
          go_loopw [60] (fun i wr => ∃ k : Nat, k ≤ xs.length ∧ i = .int .i64 k ∧ Below w4.heap.size w4 wr) (fun i _ => xs.length - (intOf i).toNat)
          case atStart => exact ⟨0, by omega, rfl, Below.refl _ _⟩
          case round =>
            obtain ⟨k, hk, rfl, hb6⟩ := hrel
            by_cases hlt : k < xs.length
            · obtain ⟨ad1, rfl, hT1⟩ := HA.out (show 0 < xs.length by omega)
              obtain ⟨ad2, rfl, hT2⟩ := HB.out (show 0 < xs.length by omega)
              obtain ⟨s, hs⟩ : ∃ s, s = xs[k] := ⟨_, rfl⟩
              have hc1 := (hT1.below hb6) k hlt
              have hc2 := (hT2.below hb6) k hlt
              have ex : (SetR.ok xs).outs[k]'hlt = s := hs.symm
              rw [ex] at hc1 hc2
              clear hT1 hT2 ex hs
              go_wp2_with fail
              go_quiet (fail)
              go_wp2_with fail
              go_roundw
              case rel => exact ⟨k + 1, by omega, by go_num, below_drewN hb6 _⟩
              case measure => simp [intOf]; omega
            · obtain rfl : k = xs.length := by omega
              go_wp2
              go_ret
              exact ⟨rfl, below_from hb41 hb6⟩
  · have hl2 : decide ((20 : Int) < (l.length : Int)) = true := by simp; omega
    go_enter Tryd.func11, Tryd.ntmps11
    go_wp2_with fail
    refine HK.out.mono ?_
    rintro e w1 ⟨rfl, hb1⟩
    go_wp2
    go_ret
    exact ⟨rfl, hb1⟩
end Go.Proofs.YtkhnfepnapgfaaaDoor
