/-
  The law StoryPaths, walked.
-/
import Derived.Test.YtdbacepjaibaoaaDoorStoryHead
import Derived.Sort.Walk0
set_option linter.unusedVariables false
set_option linter.unusedSimpArgs false
namespace Go.Proofs.YtdbacepjaibaoaaDoor
open Go.RowKit Go.Maps Go.WideMaps Go.WideAt
open Go.Proofs.YtdbacepjaibaoaaDoorW.PrintWords (Kd ReadsRow)
theorem putM_len (M : FM) (p d : ByteArray) : (putM M p d).length ≤ M.length + 1 := by
  have := delM_len M p
  rw [putM, List.length_append, List.length_singleton]
  omega
theorem less_of_lt {a b : ByteArray} (h : a.data.toList < b.data.toList) : Op.bytesLess a.toList b.toList = true := by
  rw [bytesLess_eq, ByteArray.toList_eq, ByteArray.toList_eq]
  exact decide_eq_true h
set_option maxRecDepth 100000 in
set_option maxHeartbeats 2000000 in
theorem storyPaths_walk (v : Value) (l : List ByteArray) (w : World) (hv : SliceArg Kd.string w v l) (hs : ∀ s ∈ l, s.size ≤ maxLen) (hg : Env w) :
    Calls Tryd.prog 3 #[v] w fun e w' => e = .returned (.bool true) ∧ Below w.heap.size w w' := by
  obtain ⟨A, c, rfl, hlc, hcm, hC⟩ := hv
  have HK := Lib.hid (tells_any w hg)
  have HR := Lib.hid (textRow_of hC)
  have HS := Lib.hid hs
  clear hg hC hs
  have hmx : (maxLen : Nat) = 9223372036854775807 := rfl
  have hlm : l.length ≤ 9223372036854775807 := by omega
  by_cases hl : l.length ≤ 50
  · have hl2 : decide ((50 : Int) < (l.length : Int)) = false := by simp; omega
    go_enter Tryd.func3, Tryd.ntmps3
    go_wp2_with fail
    refine HK.out.mono ?_
    rintro e w1 ⟨rfl, hb1⟩
    have hmm := @run_makeMap Tryd.prog
    have HM0 := Lib.hid (fmap_new w1)
    have HB1 := Lib.hid (below_from hb1 (below_one w1 (.map #[] 0)))
    have hs1 := hb1.size
    clear hb1
    go_wp2_with fail
    go_loopw [17] (fun i wr => ∃ (k : Nat) (M : FM), k ≤ l.length ∧ i = .int .i64 k ∧ FMapAt wr w1.heap.size M ∧ M.length ≤ k ∧ (∀ p d, getM M p = some d → d = ⟨#[120]⟩) ∧ (∀ p ∈ M.map Prod.fst, p.size ≤ maxLen) ∧ Below w.heap.size w wr) (fun i _ => l.length - (intOf i).toNat)
    case atStart => exact ⟨0, [], by omega, rfl, HM0.out, by simp, (fun p d h => by cases h), (fun p h => by cases h), HB1.out⟩
    case round =>
      obtain ⟨k, M, hk, rfl, hm, hml, hall, hkz, hb⟩ := hrel
      obtain ⟨wk, rfl⟩ : ∃ W, W = wr := ⟨wr, rfl⟩
      have HM := Lib.hid hm
      have HALL := Lib.hid hall
      have HKZ := Lib.hid hkz
      have HB := Lib.hid hb
      clear hm hall hb hkz
      by_cases hlt : k < l.length
      · obtain ⟨ad, rfl, hT⟩ := (HR.out.below HB.out) (by omega)
        have x1 := hT k hlt
        obtain ⟨p, hp⟩ : ∃ p, p = l[k] := ⟨_, rfl⟩
        have hpz := HS.out p (hp ▸ List.getElem_mem hlt)
        rw [← hp] at x1
        obtain ⟨w2, hrun2, hm2, hg2⟩ := HM.out.put Tryd.underlying25 (by omega) p ⟨#[120]⟩ hpz
        have HM2 := Lib.hid hm2
        have HB2 : Hid (Below w.heap.size w w2) := Lib.hid (HB.out.grown hg2 HB.out.size (fun j hj => by cases hj; exact hs1))
        clear hT hp hm2 hg2
        go_wp2_with fail
        go_roundw
        case rel => exact ⟨k + 1, _, by omega, by go_num, HM2.out, by have := putM_len M p ⟨#[120]⟩; omega, (fun q d h => by
          rw [getM_put] at h
          split at h
          · injection h with h; exact h.symm
          · exact HALL.out q d h), (fun q hq => by
          rw [putM, List.map_append, List.mem_append] at hq
          rcases hq with hq | hq
          · obtain ⟨x, hx, rfl⟩ := List.mem_map.1 hq
            exact HKZ.out _ (List.mem_map.2 ⟨x, (List.mem_filter.1 hx).1, rfl⟩)
          · rw [List.map_cons, List.map_nil, List.mem_singleton] at hq
            rw [hq]
            exact hpz), HB2.out⟩
        case measure => simp [intOf]; omega
      · obtain rfl : k = l.length := by omega
        have hM5 : M.length ≤ 100000 := by omega
        go_wp2_with fail
        refine (paths_any w1.heap.size M wk hM5 HM.out).mono ?_
        rintro e w3 ⟨A3, c3, K, rfl, hkc, hpo, _, htx, hb3⟩
        have HPO := Lib.hid hpo
        have HTX := Lib.hid htx
        have HM3 := Lib.hid (HM.out.below hb3)
        have HB3 := Lib.hid (below_from HB.out hb3)
        have hKl : K.length ≤ 100000 := by rw [hpo.len]; exact hM5
        have HKE : Hid (K.length = M.length) := Lib.hid hpo.len
        have hrl := HM3.out.len Tryd.underlying25 3
        clear hpo htx hb3
        go_wp2_with fail
        go_loop [28] (fun i => ∃ k : Nat, k ≤ K.length ∧ i = .int .i64 k) (fun i => K.length - (intOf i).toNat)
        case atStart => exact ⟨0, by omega, rfl⟩
        case round =>
          obtain ⟨k, hk, rfl⟩ := hrel
          by_cases hlt : k < K.length
          · obtain ⟨ad, rfl, hT⟩ := HTX.out (by omega)
            have x1 := hT k hlt
            have hpk : K[k] ∈ M.map Prod.fst := (HPO.out.mem _).1 (List.getElem_mem hlt)
            have hpz : K[k].size ≤ maxLen := HKZ.out _ hpk
            have hlk := HM3.out.look Tryd.underlying25 K[k] hpz
            have hgt : getM M K[k] = some ⟨#[120]⟩ := by
              have h1 := getM_some.2 hpk
              cases hg : getM M K[k] with
              | none => rw [hg] at h1; cases h1
              | some d => rw [HALL.out _ d hg]
            rw [hgt] at hlk
            simp only [Option.getD_some] at hlk
            have HNX : Hid (∀ j, j + 1 = k → ∀ h : j < K.length, Op.bytesLess K[j].toList K[k].toList = true) := Lib.hid (fun j e h => less_of_lt (List.pairwise_iff_getElem.1 HPO.out.rising j k h hlt (by omega)))
            cases k with
            | zero =>
              rw [show ad.add 0 = ad by simp [Addr.add]] at x1
              generalize K[0] = p at *
              clear hT hgt hpk
              go_wp2_with fail
              go_round
              case rel => exact ⟨1, by omega, by go_num⟩
              case measure => simp [intOf]; omega
            | succ k =>
              have x0 := hT k (by omega)
              have hls := HNX.out k rfl (by omega)
              rw [show ad.add (k + 1) = ⟨ad.block, ad.off + (k + 1), none⟩ by simp [Addr.add]] at x1
              generalize K[k + 1] = p at *
              generalize K[k] = q at *
              clear hT hgt hpk
              go_wp2_with fail
              go_round
              case rel => exact ⟨k + 1 + 1, by omega, by go_num⟩
              case measure => simp [intOf]; omega
          · obtain rfl : k = K.length := by omega
            go_wp2_with fail
            go_ret
            exact ⟨ret_bool (by simp [HKE.out]), HB3.out⟩
  · have hl2 : decide ((50 : Int) < (l.length : Int)) = true := by simp; omega
    go_enter Tryd.func3, Tryd.ntmps3
    go_wp2_with fail
    refine HK.out.mono ?_
    rintro e w1 ⟨rfl, hb1⟩
    go_wp2_with fail
    go_ret
    exact ⟨rfl, hb1⟩
end Go.Proofs.YtdbacepjaibaoaaDoor
