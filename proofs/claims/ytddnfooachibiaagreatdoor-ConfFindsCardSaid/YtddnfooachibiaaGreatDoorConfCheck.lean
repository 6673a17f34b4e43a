/-
  Config.Check.
-/
import Derived.Test.YtddnfooachibiaaGreatDoorConfFind
import Derived.Test.YtddnfooachibiaaGreatDoorPathFns
set_option linter.unusedVariables false
set_option linter.unusedSimpArgs false
namespace Go.Proofs.YtddnfooachibiaaGreatDoor
open Go.RowKit Go.Maps Go.WideMaps Go.WideAt
theorem retErr_new {w W : World} {p k : Int} {g : GErr} (hg : g = .fault p k) (hb : Below w.heap.size w W) :
    RetErr w g (.returned (.iface 62 (.pointer (some ⟨W.heap.size, 0, none⟩)))) (W.alloc (.cells #[.int .i64 p, .int .i64 k] 64)) := by
  subst hg
  exact ⟨_, rfl, ⟨W.heap.size, rfl, by simp, by simp, _, _, heap_alloc_new W _⟩, hb.alloc hb.size _⟩
theorem retErr_at {w W : World} {p k : Int} {g : GErr} {b : Nat} (hg : g = .fault p k) (hb : Below w.heap.size w W) (hbs : b = W.heap.size) :
    RetErr w g (.returned (.iface 62 (.pointer (some ⟨b, 0, none⟩)))) (W.alloc (.cells #[.int .i64 p, .int .i64 k] 64)) := by
  subst hbs
  exact retErr_new hg hb
theorem retErr_nil {w W : World} {g : GErr} (hg : g = .nil) (hb : Below w.heap.size w W) : RetErr w g (.returned .nilIface) W := ⟨_, rfl, by rw [hg]; rfl, hb⟩
def meetR (x m : ModC) : Bool := decide (x.root = m.root) || clashB x.root m.root
theorem whole_go {ms : List ModC} {k : Nat} (hk : k < ms.length) (h0 : ms[k].root.data.toList ≠ []) (hno : ∀ j (hj : j < ms.length), j < k → meetR ms[j] ms[k] = false) (hgo : wholeC 0 [] ms = wholeC k (ms.take k) (ms.drop k)) : wholeC 0 [] ms = wholeC (k + 1) (ms.take (k + 1)) (ms.drop (k + 1)) := by
  rw [hgo, List.drop_eq_getElem_cons hk, wholeC, if_neg h0, if_neg, List.take_succ_eq_append_getElem hk]
  rw [Bool.not_eq_true, List.any_eq_false]
  intro x hx
  obtain ⟨j, hj, rfl⟩ := List.getElem_of_mem hx
  rw [List.length_take] at hj
  have := hno j (by omega) (by omega)
  rw [List.getElem_take]
  unfold meetR at this
  rw [this]; decide
theorem whole_root {ms : List ModC} {k : Nat} (hk : k < ms.length) (h0 : ms[k].root.data.toList = []) (hgo : wholeC 0 [] ms = wholeC k (ms.take k) (ms.drop k)) : wholeC 0 [] ms = .fault k 4 := by
  rw [hgo, List.drop_eq_getElem_cons hk, wholeC, if_pos h0]
theorem whole_meet {ms : List ModC} {k j : Nat} (hk : k < ms.length) (h0 : ms[k].root.data.toList ≠ []) (hj : j < k) (hm : meetR ms[j] ms[k] = true) (hgo : wholeC 0 [] ms = wholeC k (ms.take k) (ms.drop k)) : wholeC 0 [] ms = .fault k 90 := by
  rw [hgo, List.drop_eq_getElem_cons hk, wholeC, if_neg h0, if_pos]
  refine List.any_eq_true.2 ⟨ms[j], ?_, hm⟩
  have : (ms.take k)[j]'(by rw [List.length_take]; omega) = ms[j] := by rw [List.getElem_take]
  rw [← this]
  exact List.getElem_mem _
theorem root_none {x : ByteArray} (h : x.size = 0) : x.data.toList = [] := none_of h
theorem root_some {x : ByteArray} (h : x.size ≠ 0) : x.data.toList ≠ [] := fun e => h (by
  have : x.data.toList.length = x.size := by simp
  rw [e] at this
  exact this.symm)
set_option maxRecDepth 100000 in
set_option maxHeartbeats 2000000 in
/-- Config.Check. -/
theorem ccheck_any (v : Value) (q : List MRow) (w : World) (hl : q.length ≤ 100000) (hz : ∀ r ∈ q, r.md.root.size ≤ 140737488351232) (hq : ModsIn w v q) : Calls Tryz.prog 16 #[.agg #[v]] w (RetErr w (wholeC 0 [] (q.map MRow.md))) := by
  have hb0 := below_one w (.cells #[v] 25)
  have HQ := Lib.hid (hq.below hb0).at_
  have HUS : Hid (∀ r ∈ q, ∃ A c, r.uv = .slice A r.md.us.length c) := Lib.hid fun r hr => by
    obtain ⟨A, c, e, _⟩ := (hq.us r hr).slice
    exact ⟨A, c, e⟩
  have HZ := Lib.hid hz
  obtain ⟨A, c, rfl, hc⟩ := RowIn.slice hq.row
  have hn0 := heap_alloc_new w (.cells #[.slice A q.length c] 25)
  have hs0 : (w.alloc (.cells #[.slice A q.length c] 25)).heap.size = w.heap.size + 1 := by simp
  have hml : (q.map MRow.md).length = q.length := by simp
  have HMS : Hid (∀ j (hj : j < q.length), (q.map MRow.md)[j]'(by simpa using hj) = q[j].md) := Lib.hid (fun j hj => by simp)
  clear hq hz
  go_enter Tryz.func16, Tryz.ntmps16
  go_wp2_with fail
  generalize hW0 : w.alloc (.cells #[.slice A q.length c] 25) = W0 at *
  have HB0 := Lib.hid hb0
  have HN0 := Lib.hid hn0
  clear hb0 hn0 hW0
  obtain ⟨ms, hms⟩ : ∃ ms, ms = q.map MRow.md := ⟨_, rfl⟩
  rw [← hms] at hml ⊢
  have HM : Hid (∀ j (hj : j < q.length) (hj2 : j < ms.length), ms[j] = q[j].md) := Lib.hid (fun j hj hj2 => by subst hms; exact HMS.out j hj)
  have HMSE := Lib.hid hms
  clear hms HMS
  go_loopw [10] (fun i wr => ∃ k : Nat, k ≤ q.length ∧ i = .int .i64 k ∧ Below W0.heap.size W0 wr ∧ wholeC 0 [] ms = wholeC k (ms.take k) (ms.drop k)) (fun i _ => q.length - (intOf i).toNat)
  case atStart => exact ⟨0, by omega, rfl, Below.refl _ _, rfl⟩
  case round =>
    obtain ⟨k, hk, rfl, hbw, hgo⟩ := hrel
    obtain ⟨wk, rfl⟩ : ∃ W, W = wr := ⟨wr, rfl⟩
    have HB := Lib.hid hbw
    have HGO := Lib.hid hgo
    have hszk := hbw.size
    clear hgo
    by_cases hlt : k < q.length
    · obtain ⟨A2, c2, e2, _, hcell⟩ := HQ.out
      injection e2 with e2 _ e3
      subst e2 e3
      obtain ⟨b, off, rfl, x1, x2, x3, x4, x5, x6⟩ := hcell k hlt
      replace x1 := cell_below hbw x1
      replace x2 := cell_below hbw x2
      replace x3 := cell_below hbw x3
      replace x4 := cell_below hbw x4
      replace x5 := cell_below hbw x5
      replace x6 := cell_below hbw x6
      have HM1 := Lib.hid (HM.out k hlt (by omega))
      have hz := HZ.out q[k] (List.getElem_mem hlt)
      obtain ⟨⟨⟨nm, rt, wb, sl, qu, us⟩, uv⟩, hr⟩ : ∃ r, r = q[k] := ⟨_, rfl⟩
      obtain ⟨A', c', huv⟩ := HUS.out _ (List.getElem_mem hlt)
      rw [← hr] at x1 x2 x3 x4 x5 x6 huv hz HM1
      replace huv : uv = .slice A' us.length c' := huv
      subst huv
      replace hz : rt.size ≤ 140737488351232 := hz
      have y0 : wk.cell? ⟨w.heap.size, 0, none⟩ = some (.slice (some ⟨b, off, none⟩) q.length c) := by simp [World.cell?, block_below HN0.out hbw]
      have hb1 := below_one wk (.cells #[.string nm, .string rt, .bool wb, .int .i64 sl, .int .i64 qu, .slice A' us.length c'] 41)
      have y0' := cell_below hb1 y0
      have hnk := heap_alloc_new wk (.cells #[.string nm, .string rt, .bool wb, .int .i64 sl, .int .i64 qu, .slice A' us.length c'] 41)
      have HB1 := Lib.hid (below_from HB.out hb1)
      have HCL := Lib.hid hcell
      clear hr hbw hb1 hcell
      by_cases e0 : rt.size = 0
      · have he := empty_of e0
        have HR : Hid (wholeC 0 [] ms = .fault k 4) := Lib.hid (whole_root (by omega) (by rw [HM1.out]; exact root_none e0) HGO.out)
        clear e0
        go_wp2_with fail
        go_ret
        exact retErr_at HR.out (below_from HB0.out HB1.out) (by simp)
      · have he := some_of e0
        have HNE : Hid (∀ h : k < ms.length, ms[k].root.data.toList ≠ []) := Lib.hid (fun h => by rw [HM1.out]; exact root_some e0)
        have hkc : k ≤ c := by omega
        clear e0
        go_wp2_with fail
        generalize hW1 : wk.alloc (.cells #[.string nm, .string rt, .bool wb, .int .i64 sl, .int .i64 qu, .slice A' us.length c'] 41) = W1 at *
        have HN1 := Lib.hid hnk
        clear hW1 hnk x1 x2 x3 x4 x5 x6 y0 y0'
        have hszW := HB1.out.size
        go_loopw [27] (fun i wr => ∃ j : Nat, j ≤ k ∧ i = .int .i64 j ∧ Below W1.heap.size W1 wr ∧ ∀ m (hm : m < ms.length) (hk2 : k < ms.length), m < j → meetR ms[m] ms[k] = false) (fun i _ => k - (intOf i).toNat)
        case atStart => exact ⟨0, by omega, rfl, Below.refl _ _, fun m hm hk2 h => by omega⟩
        case round =>
          obtain ⟨j, hj, rfl, hbj, hno⟩ := hrel
          obtain ⟨wj, rfl⟩ : ∃ W, W = wr := ⟨wr, rfl⟩
          have HBJ := Lib.hid (below_from HB1.out hbj)
          have HBJ1 := Lib.hid hbj
          have HNO := Lib.hid hno
          have hszj := hbj.size
          clear hno
          by_cases hjl : j < k
          · obtain ⟨b2, off2, eA, z1, z2, z3, z4, z5, z6⟩ := HCL.out j (by omega)
            injection eA with eA
            injection eA with eA1 eA2
            subst eA1 eA2
            replace z1 := cell_below HBJ.out z1
            replace z2 := cell_below HBJ.out z2
            replace z3 := cell_below HBJ.out z3
            replace z4 := cell_below HBJ.out z4
            replace z5 := cell_below HBJ.out z5
            replace z6 := cell_below HBJ.out z6
            have HM2 := Lib.hid (HM.out j (by omega) (by omega))
            have hz2 := HZ.out (q[j]'(by omega)) (List.getElem_mem _)
            obtain ⟨⟨⟨nm2, rt2, wb2, sl2, qu2, us2⟩, uv2⟩, hr2⟩ : ∃ r, r = q[j]'(by omega) := ⟨_, rfl⟩
            obtain ⟨A3, c3, huv2⟩ := HUS.out (q[j]'(by omega)) (List.getElem_mem _)
            rw [← hr2] at z1 z2 z3 z4 z5 z6 huv2 hz2 HM2
            replace huv2 : uv2 = .slice A3 us2.length c3 := huv2
            subst huv2
            replace hz2 : rt2.size ≤ 140737488351232 := hz2
            have HME : Hid (∀ (h1 : j < ms.length) (h2 : k < ms.length), meetR ms[j] ms[k] = (decide (rt2 = rt) || clashB rt2 rt)) := Lib.hid (fun h1 h2 => by rw [meetR, HM1.out, HM2.out])
            have hb2 := below_one wj (.cells #[.string nm2, .string rt2, .bool wb2, .int .i64 sl2, .int .i64 qu2, .slice A3 us2.length c3] 41)
            have yk : wj.cell? ⟨wk.heap.size, 1, none⟩ = some (.string rt) := by simp [World.cell?, block_below HN1.out hbj]
            have yk' := cell_below hb2 yk
            have HB2 := Lib.hid (below_from HBJ.out hb2)
            have HB21 := Lib.hid (below_from HBJ1.out hb2)
            clear hr2 hbj hb2
            by_cases e1 : rt2 = rt
            · have be := eq_beq e1
              have HR : Hid (wholeC 0 [] ms = .fault k 90) := Lib.hid (whole_meet (by omega) (HNE.out (by omega)) hjl (by rw [HME.out (by omega) (by omega), decide_eq_true e1]; rfl) HGO.out)
              clear e1
              go_wp2_with fail
              go_ret
              exact retErr_at HR.out (below_from HB0.out HB2.out) (by simp)
            · have be := ne_beq e1
              have HCLA := Lib.hid (fun W => clash_any rt2 rt W hz2 hz)
              cases hcl : clashB rt2 rt with
              | true =>
                have HR : Hid (wholeC 0 [] ms = .fault k 90) := Lib.hid (whole_meet (by omega) (HNE.out (by omega)) hjl (by rw [HME.out (by omega) (by omega), hcl, Bool.or_true]) HGO.out)
                clear e1
                go_wp2_with fail
                refine (HCLA.out _).mono ?_
                rw [hcl]
                rintro e w5 ⟨rfl, h5⟩
                replace h5 := h5.symm
                subst h5
                go_wp2_with fail
                go_ret
                exact retErr_at HR.out (below_from HB0.out HB2.out) (by simp)
              | false =>
                have HN3 : Hid (∀ m (hm : m < ms.length) (hk2 : k < ms.length), m < j + 1 → meetR ms[m] ms[k] = false) := Lib.hid (fun m hm hk2 h => by
                  by_cases e : m = j
                  · subst e
                    rw [HME.out hm hk2, decide_eq_false e1, hcl]; rfl
                  · exact HNO.out m hm hk2 (by omega))
                clear e1
                go_wp2_with fail
                refine (HCLA.out _).mono ?_
                rw [hcl]
                rintro e w5 ⟨rfl, h5⟩
                replace h5 := h5.symm
                subst h5
                go_wp2_with fail
                go_roundw
                case rel => exact ⟨j + 1, by omega, by go_num, HB21.out, HN3.out⟩
                case measure => simp [intOf]; omega
          · obtain rfl : j = k := by omega
            have HN3 := Lib.hid (whole_go (by omega) (HNE.out (by omega)) (fun m hm h => HNO.out m hm (by omega) h) HGO.out)
            go_wp2_with fail
            go_roundw
            case rel => exact ⟨j + 1, by omega, by go_num, HBJ.out, HN3.out⟩
            case measure => simp [intOf]; omega
    · have HR : Hid (wholeC 0 [] ms = .nil) := Lib.hid (by
        rw [HGO.out, List.drop_of_length_le (by omega), wholeC])
      obtain rfl : k = q.length := by omega
      go_wp2_with fail
      go_ret
      exact retErr_nil (by first | exact HR.out | (rw [← HMSE.out]; exact HR.out)) (below_from HB0.out HB.out)
end Go.Proofs.YtddnfooachibiaaGreatDoor
