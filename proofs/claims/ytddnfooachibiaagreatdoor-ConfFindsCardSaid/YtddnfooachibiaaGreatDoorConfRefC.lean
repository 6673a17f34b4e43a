/-
  The reference's Check of modules.
-/
import Derived.Test.YtddnfooachibiaaGreatDoorConfCheck
set_option linter.unusedVariables false
set_option linter.unusedSimpArgs false
namespace Go.Proofs.YtddnfooachibiaaGreatDoor
open Go.RowKit Go.Maps Go.WideMaps Go.WideAt
def whRes (g : GErr) : Ending := match g with
  | .fault p e => .returned (.tuple #[.int .i64 e, .int .i64 p])
  | _ => .returned (.tuple #[.int .i64 0, .int .i64 0])
theorem whRes_fault {g : GErr} {p e : Int} (h : g = .fault p e) : Ending.returned (.tuple #[.int .i64 e, .int .i64 p]) = whRes g := by rw [h]; rfl
theorem whRes_nil {g : GErr} (h : g = .nil) : Ending.returned (.tuple #[.int .i64 0, .int .i64 0]) = whRes g := by rw [h]; rfl
set_option maxRecDepth 100000 in
set_option maxHeartbeats 2000000 in
theorem rcheckM_any (A : Option Addr) (c : Nat) (q : List RMRow) (w : World) (hl : q.length ≤ 100000) (hz : ∀ r ∈ q, r.md.root.size ≤ 140737488351232) (hq : RModsIn w (.slice A q.length c) q) : Calls Tryz.prog 15 #[.slice A q.length c] w fun e w' => e = whRes (wholeC 0 [] (q.map RMRow.md)) ∧ Below w.heap.size w w' := by
  have HQ := Lib.hid hq.at_
  have HZ := Lib.hid hz
  have hml : (q.map RMRow.md).length = q.length := by simp
  have HMS : Hid (∀ j (hj : j < q.length), (q.map RMRow.md)[j]'(by simpa using hj) = q[j].md) := Lib.hid (fun j hj => by simp)
  clear hq hz
  obtain ⟨ms, hms⟩ : ∃ ms, ms = q.map RMRow.md := ⟨_, rfl⟩
  rw [← hms] at hml ⊢
  have HM : Hid (∀ j (hj : j < q.length) (hj2 : j < ms.length), ms[j] = q[j].md) := Lib.hid (fun j hj hj2 => by subst hms; exact HMS.out j hj)
  clear hms HMS
  go_enter Tryz.func15, Tryz.ntmps15
  go_wp2_with fail
  go_loopw [4] (fun i wr => ∃ k : Nat, k ≤ q.length ∧ i = .int .i64 k ∧ Below w.heap.size w wr ∧ wholeC 0 [] ms = wholeC k (ms.take k) (ms.drop k)) (fun i _ => q.length - (intOf i).toNat)
  case atStart => exact ⟨0, by omega, rfl, Below.refl _ _, rfl⟩
  case round =>
    obtain ⟨k, hk, rfl, hbw, hgo⟩ := hrel
    obtain ⟨wk, rfl⟩ : ∃ W, W = wr := ⟨wr, rfl⟩
    have HB := Lib.hid hbw
    have HGO := Lib.hid hgo
    clear hgo
    by_cases hlt : k < q.length
    · obtain ⟨A2, c2, e2, _, hcell⟩ := HQ.out
      injection e2 with e2 _ e3
      subst e2 e3
      obtain ⟨b, off, rfl, _, x2, _⟩ := hcell k hlt
      have HX2 := Lib.hid x2
      replace x2 := cell_below hbw x2
      have HM1 := Lib.hid (HM.out k hlt (by omega))
      have hz := HZ.out q[k] (List.getElem_mem hlt)
      obtain ⟨rt, hrt⟩ : ∃ r, r = q[k].md.root := ⟨_, rfl⟩
      rw [← hrt] at x2 hz HX2
      have HRT : Hid (∀ h : k < ms.length, ms[k].root = rt) := Lib.hid (fun h => by rw [HM1.out, hrt])
      have HCL := Lib.hid hcell
      clear hrt hbw hcell
      by_cases e0 : rt.size = 0
      · have he := empty_of e0
        have HR : Hid (wholeC 0 [] ms = .fault k 4) := Lib.hid (whole_root (by omega) (by rw [HRT.out (by omega)]; exact root_none e0) HGO.out)
        clear e0
        go_wp2_with fail
        go_ret2
        exact ⟨whRes_fault HR.out, HB.out⟩
      · have he := some_of e0
        have HNE : Hid (∀ h : k < ms.length, ms[k].root.data.toList ≠ []) := Lib.hid (fun h => by rw [HRT.out h]; exact root_some e0)
        clear e0
        go_wp2_with fail
        clear x2
        go_loopw [5] (fun i wr => ∃ j : Nat, j ≤ k ∧ i = .int .i64 j ∧ Below w.heap.size w wr ∧ ∀ m (hm : m < ms.length) (hk2 : k < ms.length), m < j → meetR ms[m] ms[k] = false) (fun i _ => k - (intOf i).toNat)
        case atStart => exact ⟨0, by omega, rfl, HB.out, fun m hm hk2 h => by omega⟩
        case round =>
          obtain ⟨j, hj, rfl, hbj, hno⟩ := hrel
          obtain ⟨wj, rfl⟩ : ∃ W, W = wr := ⟨wr, rfl⟩
          have HBJ := Lib.hid hbj
          have HNO := Lib.hid hno
          clear hno
          by_cases hjl : j < k
          · obtain ⟨b2, off2, eA, _, z2, _⟩ := HCL.out j (by omega)
            injection eA with eA
            injection eA with eA1 eA2
            subst eA1 eA2
            replace z2 := cell_below hbj z2
            have yk := cell_below hbj HX2.out
            have HM2 := Lib.hid (HM.out j (by omega) (by omega))
            have hz2 := HZ.out (q[j]'(by omega)) (List.getElem_mem _)
            obtain ⟨rt2, hrt2⟩ : ∃ r, r = (q[j]'(by omega)).md.root := ⟨_, rfl⟩
            rw [← hrt2] at z2 hz2
            have HME : Hid (∀ (h1 : j < ms.length) (h2 : k < ms.length), meetR ms[j] ms[k] = (decide (rt2 = rt) || clashB rt2 rt)) := Lib.hid (fun h1 h2 => by rw [meetR, HRT.out h2, HM2.out, hrt2])
            clear hrt2
            have HBN := Lib.hid (fun n => below_drewN hbj n)
            by_cases e1 : rt2 = rt
            · have be := eq_beq e1
              have HR : Hid (wholeC 0 [] ms = .fault k 90) := Lib.hid (whole_meet (by omega) (HNE.out (by omega)) hjl (by rw [HME.out (by omega) (by omega), decide_eq_true e1]; rfl) HGO.out)
              clear e1
              go_wp2_with fail
              go_quiet (fail)
              go_wp2_with fail
              go_ret2
              exact ⟨whRes_fault HR.out, HBN.out _⟩
            · have be := ne_beq e1
              cases hcl : clashB rt2 rt with
              | true =>
                have HCLA := Lib.hid (fun W => hcl ▸ rclash_any rt2 rt W hz2 hz)
                have HR : Hid (wholeC 0 [] ms = .fault k 90) := Lib.hid (whole_meet (by omega) (HNE.out (by omega)) hjl (by rw [HME.out (by omega) (by omega), hcl, Bool.or_true]) HGO.out)
                clear e1 hcl
                go_wp2_with fail
                go_quiet ((refine (HCLA.out _).mono ?_; rintro e w2 ⟨rfl, rfl⟩; exact ⟨rfl, _, rfl⟩))
                go_wp2_with fail
                go_ret2
                exact ⟨whRes_fault HR.out, HBN.out _⟩
              | false =>
                have HCLA := Lib.hid (fun W => hcl ▸ rclash_any rt2 rt W hz2 hz)
                have HN3 : Hid (∀ m (hm : m < ms.length) (hk2 : k < ms.length), m < j + 1 → meetR ms[m] ms[k] = false) := Lib.hid (fun m hm hk2 h => by
                  by_cases e : m = j
                  · subst e
                    rw [HME.out hm hk2, decide_eq_false e1, hcl]; rfl
                  · exact HNO.out m hm hk2 (by omega))
                clear e1 hcl
                go_wp2_with fail
                go_quiet ((refine (HCLA.out _).mono ?_; rintro e w2 ⟨rfl, rfl⟩; exact ⟨rfl, _, rfl⟩))
                go_wp2_with fail
                go_roundw
                case rel => exact ⟨j + 1, by omega, by go_num, HBN.out _, HN3.out⟩
                case measure => simp [intOf]; omega
          · obtain rfl : j = k := by omega
            have HN3 := Lib.hid (whole_go (by omega) (HNE.out (by omega)) (fun m hm h => HNO.out m hm (by omega) h) HGO.out)
            go_wp2_with fail
            go_roundw
            case rel => exact ⟨j + 1, by omega, by go_num, HBJ.out, HN3.out⟩
            case measure => simp [intOf]; omega
    · have HR : Hid (wholeC 0 [] ms = .nil) := Lib.hid (by
        rw [HGO.out, List.drop_of_length_le (by omega), wholeC])
      obtain rfl : k = q.length := by omega
      go_wp2_with fail
      go_ret2
      exact ⟨whRes_nil HR.out, HB.out⟩
end Go.Proofs.YtddnfooachibiaaGreatDoor
